
import Derived.Below
import Derived.Orders
import Derived.KernelRfl
import Derived.Deep.MidRow
import Derived.DeepKeys
import Derived.Laws.Tables
import Derived.Great.BuildSlice
set_option linter.all false
set_option exponentiation.threshold 3000
namespace Go.Eng
theorem exE {α:Sort _} (a:α): ∃ x,x=a:=⟨a,rfl⟩
theorem UM {a b:Prop} (x:a) (y:b):a∧b:=⟨x,y⟩
structure Dg where
 n:Nat
 lt:n < 2 ^ 1024
 deriving DecidableEq
structure Wd where
 neg:Bool
 d:Dg
 deriving DecidableEq
structure Rt where
 N:Wd
 D:Wd
 deriving DecidableEq
structure Pt where
 X:Rt
 Y:Rt
 deriving DecidableEq
def Dg.dig (d:Dg) (i:Nat):Nat:=d.n / 2 ^ (32*i) % 2 ^ 32
inductive Sc where
 | lit (k:IntKind) (n:Int)
 | int (k:IntKind) (n:Int)
 | tt (b:Bool)
 | bool (b:Bool)
 | str (s:ByteArray)
 | hp (id off:Nat)
 | pe (id base esz:Nat) (i:Int) (off:Nat)
 | hs (id:Nat)
 | ve (id esz:Nat) (i:Int) (off:Nat)
 | hw (id esz:Nat) (lo hi:Int)
 | ha (id off esz:Nat) (lo hi:Int) (cap:Nat)
 | hm (id:Nat)
 | nilp | nils | nilm | nilf
 | fn (f:Nat) (caps:List (Nat×Nat))
 | un
inductive At where
 | s (x:Sc)
 | D (d:Dg)
 | W (w:Wd)
 | R (r:Rt)
 | P (p:Pt)
inductive CV where
 | s (x:Sc)
 | g (l:List At)
inductive XV where
 | c (v:CV)
 | t (l:List CV)
def At.size:At→Nat
 | .s _=>1 | .D _=>32 | .W _=>33 | .R _=>66 | .P _=>132
def At.expand:At→Option (List At)
 | .P p=>some [.R p.X, .R p.Y]
 | .R r=>some [.W r.N, .W r.D]
 | .W w=>some [.s (.bool w.neg), .D w.d]
 | _=>none
def bO:List At→Nat
 | []=>0
 | a :: r=>a.size+bO r
def j9:Nat→Nat→List At→Option (List At)
 | _,0,l=>some l
 | 0,_+1,_=>none
 | _+1,_+1,[]=>none
 | fuel+1,n+1,a :: r=>
  if a.size≤n+1 then j9 fuel (n+1 - a.size) r
  else match a.expand with
   | some ex=>j9 fuel (n+1) (ex++r)
   | none=>none
def mC:Nat→Nat→List At→Option (List At)
 | _,0,_=>some []
 | 0,_+1,_=>none
 | _+1,_+1,[]=>none
 | fuel+1,n+1,a :: r=>
  if a.size≤n+1 then match mC fuel (n+1 - a.size) r with
   | some l=>some (a :: l)
   | none=>none
  else match a.expand with
   | some ex=>mC fuel (n+1) (ex++r)
   | none=>none
def FY:At→List At→List At
 | .s (.bool b), .D d :: r=> .W ⟨b,d⟩ :: r
 | .s (.tt b), .D d :: r=> .W ⟨b,d⟩ :: r
 | a,r=>a :: r
def mWs:At→List At→List At
 | .W a, .W b :: r=> .R ⟨a,b⟩ :: r
 | a,r=>a :: r
def mRs:At→List At→List At
 | .R a, .R b :: r=> .P ⟨a,b⟩ :: r
 | a,r=>a :: r
def HO (f:At→List At→List At):List At→List At
 | []=>[]
 | a :: r=>f a (HO f r)
def merge (l:List At):List At:=HO mRs (HO mWs (HO FY l))
def Ms (l:List At) (off n:Nat):Option (List At):=
 match j9 400 off l with
 | some r=>mC 400 n r
 | none=>none
def Ff (l:List At) (off:Nat) (new:List At):Option (List At):=
 match mC 400 off l,j9 400 (off+bO new) l with
 | some a,some b=>some (merge (a++(new++b)))
 | _,_=>none
structure Alg where
 bin:BinOp→IntKind→Int→Int→Int
 cmp:BinOp→Int→Int→Bool
 wrap:IntKind→Int→Int
 not:Bool→Bool
 and:Bool→Bool→Bool
 imp:Bool→Bool→Bool
 ite:Bool→Bool→Bool→Bool
 beq:Bool→Bool→Bool
 seq:ByteArray→ByteArray→Bool
 dig:Dg→Int→Int
 setD:Dg→Int→Int→Dg
 eqD:Dg→Dg→Bool
 eqW:Wd→Wd→Bool
 eqR:Rt→Rt→Bool
 eqP:Pt→Pt→Bool
 zD:Dg
 len: {α:Type} →List α→Int
 get: {α:Type} →List α→Int→α→α
 set: {α:Type} →List α→Int→α→List α
 app: {α:Type} →List α→List α→List α
 sub: {α:Type} →List α→Int→Int→List α
 slen:ByteArray→Int
 sb:ByteArray→Int→Int
 iadd:Int→Int→Int
 isub:Int→Int→Int
 mn:Int→Int→Int
 mx:Int→Int→Int
 digs:Dg→Int→Int→List Int
 dig2:Dg→Dg→Int→Int
 setLo:Dg→Int→Int→Dg
 setHi:Dg→Int→Int→Dg
 copyD:Dg→Int→Int→List Int→Dg
 all32:List Int→Bool
 rep: {α:Type} →Int→α→List α
 ssub:ByteArray→Int→Int→ByteArray
 scat:ByteArray→ByteArray→ByteArray
 ofB:List Int→ByteArray
inductive AK where
 | int (k:IntKind) | bool | W | R | P
 deriving DecidableEq
abbrev AK.ty:AK→Type
 | .int _=>Int | .bool=>Bool | .W=>Wd | .R=>Rt | .P=>Pt
abbrev r6:List AK→Type
 | []=>Unit
 | k :: r=>k.ty×r6 r
inductive RK where
 | int (k:IntKind) | bool | rt | pt | i3 | wd | row (l:List AK)
abbrev RK.ty:RK→Type
 | .int _=>Int | .bool=>Bool | .rt=>Rt | .pt=>Pt | .i3=>Int×Int×Int | .wd=>Wd | .row l=>r6 l
inductive Blk where
 | fix (own:Bool) (l:List At)
 | vec (own:Bool) (k:RK) (l:List k.ty)
 | gone
inductive CK where
 | int (k:IntKind) | bool | str
 deriving DecidableEq
structure TI where
 eq:Bool
 agg:Bool
 size:Nat
 zero:CV
 fields:List (Nat×Nat)
 arr:Option (Nat×Nat×Nat)
 elem:Option (Nat×Nat×RK)
 sc:Option CK
abbrev bT:=List (Nat×Blk)
structure FR where
 ob:List Bool
 val:XV
 new:List Blk
 wr:bT
def dW (v:CV):Option FR:=some ⟨[], .c v,[],[]⟩
def pureO (ob:List Bool) (v:CV):Option FR:=some ⟨ob, .c v,[],[]⟩
abbrev bU:=Nat→List CV→bT→Option FR
structure Ent where
 gs:List (Nat×Bool)
 v:XV
structure St where
 env:List (Nat×Ent)
 heap:bT
 nid:Nat
structure Md where
 un:Bool
 keep:Option (List Nat)
structure Cx where
 N:Nat
 A:Alg
 T:Nat→Option TI
 C:Nat→Option bU
 un:Md
 loop:Code→St→(Exit→St→Prop)→Prop
def aN {α:Type} :List (Nat×α)→Nat→Option α
 | [],_=>none
 |(j,v) :: r,i=>if j == i then some v else aN r i
def Ei:bT→Nat→Blk→bT
 | [],_,_=>[]
 |(j,b) :: r,i,c=>if j == i then(j,c) :: r else(j,b) :: Ei r i c
def oS:bT→bT→bT
 | h,[]=>h
 | h,(i,b) :: r=>oS (Ei h i b) r
def rT:bT→Nat→List Blk→bT
 | h,_,[]=>h
 | h,n,b :: r=>(n,b) :: rT h (n+1) r
def CV.atoms:CV→List At
 | .s x=>[.s x]
 | .g l=>l
def jD:List At→Bool
 | []=>true
 | .s .un :: _=>false
 | _ :: r=>jD r
def xG:Value→Option Sc
 | .bool b=>some (.tt b)
 | .int k n=>some (.lit k n)
 | .string s=>some (.str s)
 | .pointer none=>some .nilp
 | .slice none 0 0=>some .nils
 | .map none=>some .nilm
 | .nilFunc=>some .nilf
 | _=>none
def Ou:List (Nat×Bool)→List (Nat×Bool)→Bool
 | gs,hs=>if gs == hs then true else match hs with
  | []=>false
  | _ :: r=>Ou gs r
section
variable (K:Cx)
def rdE (env:List (Nat×Ent)) (gs:List (Nat×Bool)) (t:Nat):Option XV:=
 match aN env t with
 | some e=>if Ou e.gs gs then match e.v with
  | .c (.s .un)=>none
  | v=>some v else none
 | none=>none
def rdX (env:List (Nat×Ent)) (gs:List (Nat×Bool)):Operand→Option XV
 | .tmp t=>rdE env gs t
 | .const v=>match xG v with
  | some s=>some (.c (.s s))
  | none=>none
 | .func f=>some (.c (.s (.fn f [])))
 | .global _=>none
def rdC (env:List (Nat×Ent)) (gs:List (Nat×Bool)) (x:Operand):Option CV:=
 match rdX env gs x with
 | some (.c v)=>some v
 | _=>none
def rdS (env:List (Nat×Ent)) (gs:List (Nat×Bool)) (x:Operand):Option Sc:=
 match rdX env gs x with
 | some (.c (.s v))=>some v
 | _=>none
def Sc.num:Sc→Option (Bool×IntKind×Int)
 | .lit k n=>some (true,k,n)
 | .int k n=>some (false,k,n)
 | _=>none
def Sc.boo:Sc→Option (Bool×Bool)
 | .tt b=>some (true,b)
 | .bool b=>some (false,b)
 | _=>none
def aD (op:BinOp) (k:IntKind) (a b:Int):Int:=
 match op with
 | .add=>k.wrap (a+b)
 | .sub=>k.wrap (a - b)
 | .mul=>k.wrap (a*b)
 | .quo=>k.wrap (a.tdiv b)
 | .rem=>a.tmod b
 | .and=>k.wrap (BitVec.ofInt k.bits a&&& BitVec.ofInt k.bits b).toNat
 | .or=>k.wrap (BitVec.ofInt k.bits a||| BitVec.ofInt k.bits b).toNat
 | .xor=>k.wrap (BitVec.ofInt k.bits a ^^^ BitVec.ofInt k.bits b).toNat
 | .andNot=>k.wrap (BitVec.ofInt k.bits a&&& ~~~ BitVec.ofInt k.bits b).toNat
 | .shl=>k.wrap (a*2 ^ min b.toNat k.bits)
 | .shr=>a.fdiv (2 ^ min b.toNat k.bits)
 | _=>0
def aP (op:BinOp) (a b:Int):Bool:=
 match op with
 | .eql=>a == b | .neq=>a != b
 | .lss=>decide (a < b) | .leq=>decide (a≤b) | .gtr=>decide (a > b) | .geq=>decide (a ≥ b)
 | _=>false
def atH (op:BinOp) (k:IntKind) (a b:Int):Int:=match op with
 | .and=>match a,b with
  | .ofNat x, .ofNat y=>match decide (x < 128),decide (y < 128) with
   | true,true=> .ofNat (x&&& y)
   | _,_=>aD .and k a b
  | _,_=>aD .and k a b
 | .or=>match a,b with
  | .ofNat x, .ofNat y=>match decide (x < 128),decide (y < 128) with
   | true,true=> .ofNat (x||| y)
   | _,_=>aD .or k a b
  | _,_=>aD .or k a b
 | op=>aD op k a b
theorem jS {n x:Nat} (hn:7≤n) (hx:x < 128):(BitVec.ofInt n (x:Int)).toNat=x:=by
 have h1:2 ^ 7≤2 ^ n:=Nat.pow_le_pow_right (by decide) hn
 have h2:(2:Nat) ^ 7=128:=rfl
 rw[BitVec.toNat_ofInt]
 have h3:((2 ^ n:Nat):Int)≠0:=by omega
 rw[Int.emod_eq_of_lt (by omega) (by omega)]
 omega
theorem Ds (op:BinOp) (k:IntKind) (a b:Int):atH op k a b=aD op k a b:=by
 have hk:7≤k.bits:=by cases k <;> decide
 have hw: ∀ z:Nat,z < 128→k.wrap (z:Int)=(z:Int):=fun z hz=>by
  cases k <;> simp only[IntKind.wrap,IntKind.signed,IntKind.bits,Bool.true_and,Bool.false_and,Bool.false_eq_true,if_false,decide_eq_true_eq,Nat.reduceSub,Int.reducePow] <;> first | omega | (split <;> first | omega | (rename_i h;have h:=of_decide_eq_true h;omega))
 unfold atH
 split
 ·split
  ·rename_i x y
   split
   ·rename_i h1 h2
    simp only[decide_eq_true_eq] at h1 h2
    show _=k.wrap (((BitVec.ofInt k.bits (x:Int)&&& BitVec.ofInt k.bits (y:Int)).toNat:Nat):Int)
    rw[BitVec.toNat_and,jS hk h1,jS hk h2]
    have:x&&& y < 128:=Nat.lt_of_le_of_lt Nat.and_le_left h1
    rw[hw _ this];rfl
   ·rfl
  ·rfl
 ·split
  ·rename_i x y
   split
   ·rename_i h1 h2
    simp only[decide_eq_true_eq] at h1 h2
    show _=k.wrap (((BitVec.ofInt k.bits (x:Int)||| BitVec.ofInt k.bits (y:Int)).toNat:Nat):Int)
    rw[BitVec.toNat_or,jS hk h1,jS hk h2]
    have:x||| y < 2 ^ 7:=Nat.or_lt_two_pow h1 h2
    rw[hw _ this];rfl
   ·rfl
  ·rfl
 ·rfl
def rZ (lit:Bool) (k:IntKind) (op:BinOp) (a b:Int):Sc:=
 if lit then .lit k (atH op k a b) else .int k (K.A.bin op k a b)
def Ja (op:BinOp) (x y:Bool×IntKind×Int):Option FR:=
 match x,y with
 |(lx,k,a),(ly,k',b)=>
  match op with
  | .shl | .shr=>if ly then(if aP .geq b 0 then dW (.s (rZ K (lx&&ly) k op a b)) else none)
           else pureO [K.A.cmp .geq b 0] (.s (rZ K false k op a b))
  | .quo | .rem=>
   if k=k' then(if ly then(if aP .neq b 0 then dW (.s (rZ K (lx&&ly) k op a b)) else none)
           else pureO [K.A.cmp .neq b 0] (.s (rZ K false k op a b))) else none
  | .add | .sub | .mul | .and | .or | .xor | .andNot=>if k=k' then dW (.s (rZ K (lx&&ly) k op a b)) else none
  | .eql | .neq | .lss | .leq | .gtr | .geq=>if k=k' then dW (.s (if lx&&ly then .tt (aP op a b) else .bool (K.A.cmp op a b))) else none
def Na:Sc→Sc→Option Sc
 | .lit k a,y=>match y with
  | .lit k' b=>if k=k' then some (.tt (aP .eql a b)) else none
  | .int k' b=>if k=k' then some (.bool (K.A.cmp .eql a b)) else none
  | _=>none
 | .int k a,y=>match y with
  | .lit k' b=>if k=k' then some (.bool (K.A.cmp .eql a b)) else none
  | .int k' b=>if k=k' then some (.bool (K.A.cmp .eql a b)) else none
  | _=>none
 | .tt a,y=>match y with
  | .tt b=>some (.tt (a == b))
  | .bool b=>some (.bool (K.A.beq a b))
  | _=>none
 | .bool a,y=>match y with
  | .tt b=>some (.bool (K.A.beq a b))
  | .bool b=>some (.bool (K.A.beq a b))
  | _=>none
 | .str a, .str b=>some (.bool (K.A.seq a b))
 | _,_=>none
def IE:Sc→Sc→Option Sc
 | .tt true,y=>some y
 | .tt false,_=>some (.tt false)
 | .bool a, .tt true=>some (.bool a)
 | .bool _, .tt false=>some (.tt false)
 | .bool a, .bool b=>some (.bool (K.A.and a b))
 | _,_=>none
def I6:At→At→Option Sc
 | .s x, .s y=>Na K x y
 | .D x, .D y=>some (.bool (K.A.eqD x y))
 | .W x, .W y=>some (.bool (K.A.eqW x y))
 | .R x, .R y=>some (.bool (K.A.eqR x y))
 | .P x, .P y=>some (.bool (K.A.eqP x y))
 | _,_=>none
def qD:Nat→List At→List At→Option Sc
 | 0,_,_=>none
 | _+1,[],[]=>some (.tt true)
 | fuel+1,a :: r,b :: q=>
  if a.size == b.size then match I6 K a b,qD fuel r q with
   | some x,some y=>IE K x y
   | _,_=>none
  else if a.size≤b.size then match b.expand with
   | some ex=>qD fuel (a :: r) (ex++q)
   | none=>none
  else match a.expand with
   | some ex=>qD fuel (ex++r) (b :: q)
   | none=>none
 | _+1,_,_=>none
def QM:At→At→Bool
 | .s x, .s y=>match x.num,y.num with
  | some (_,k,_),some (_,k',_)=>k == k'
  | _,_=>match x.boo,y.boo with
   | some _,some _=>true
   | _,_=>false
 | .D _, .D _=>true
 | .W _, .W _=>true
 | .R _, .R _=>true
 | .P _, .P _=>true
 | _,_=>false
def B3:Nat→List At→List At→Bool
 | 0,_,_=>false
 | _+1,[],[]=>true
 | fuel+1,a :: r,b :: q=>
  if a.size == b.size then QM a b&&B3 fuel r q
  else if a.size≤b.size then match b.expand with
   | some ex=>B3 fuel (a :: r) (ex++q)
   | none=>false
  else match a.expand with
   | some ex=>B3 fuel (ex++r) (b :: q)
   | none=>false
 | _+1,_,_=>false
def Bs:Sc→Option Sc
 | .tt b=>some (.tt (!b))
 | .bool b=>some (.bool (K.A.not b))
 | _=>none
def okB (t:Nat) (a b:Sc):Bool:=match a,b with
 | .str _, .str _=>true
 | _,_=>match K.T t with
  | some i=>match i.sc,a.boo,b.boo with
   | some .bool,some _,some _=>true
   | _,_,_=>false
  | none=>false
def agR (op:BinOp) (t:Nat) (x y:CV):Option FR:=
 match x,y with
 | .s a, .s b=>
  match a.num,b.num with
  | some p,some q=>Ja K op p q
  | _,_=>if !okB K t a b then none else match op with
   | .eql=>match Na K a b with
    | some r=>dW (.s r)
    | none=>none
   | .neq=>match Na K a b with
    | some r=>match Bs K r with
     | some r'=>dW (.s r')
     | none=>none
    | none=>none
   | .add=>match a,b with
    | .str x, .str y=>pureO [K.A.cmp .leq (K.A.iadd (K.A.slen x) (K.A.slen y)) 1000000] (.s (.str (K.A.scat x y)))
    | _,_=>none
   | _=>none
 | .g l, .g m=>match K.T t with
  | some i=>if i.agg&&i.eq&&B3 2000 l i.zero.atoms&&B3 2000 m i.zero.atoms then match op with
   | .eql=>match qD K 2000 l m with
    | some r=>dW (.s r)
    | none=>none
   | .neq=>match qD K 2000 l m with
    | some r=>match Bs K r with
     | some r'=>dW (.s r')
     | none=>none
    | none=>none
   | _=>none else none
  | none=>none
 | _,_=>none
def PL (op:UnOp) (x:Sc):Option FR:=
 match op,x with
 | .not,x=>match Bs K x with
  | some r=>dW (.s r)
  | none=>none
 | .neg, .lit k n=>dW (.s (.lit k (aD .sub k 0 n)))
 | .neg, .int k n=>dW (.s (.int k (K.A.bin .sub k 0 n)))
 | .xor, .lit k n=>dW (.s (.lit k (aD .xor k (if k.signed then -1 else k.max) n)))
 | .xor, .int k n=>dW (.s (.int k (K.A.bin .xor k (if k.signed then -1 else k.max) n)))
 | _,_=>none
def CC (src dst:Nat) (x:Sc):Option FR:=
 match K.T src with
 | none=>none
 | some _=>match K.T dst with
 | some i=>match i.sc,x with
  | some (.int k), .lit _ n=>dW (.s (.lit k (k.wrap n)))
  | some (.int k), .int _ n=>dW (.s (.int k (K.A.wrap k n)))
  | _,_=>none
 | none=>none
def AK.at1:(k:AK)→k.ty→At
 | .int k,n=> .s (.int k n)
 | .bool,b=> .s (.bool b)
 | .W,x=> .W x
 | .R,x=> .R x
 | .P,x=> .P x
def AK.sz:AK→Nat
 | .int _=>1 | .bool=>1 | .W=>33 | .R=>66 | .P=>132
def ad1:(l:List AK)→r6 l→List At
 | [],_=>[]
 | k :: r,x=>k.at1 x.1 :: ad1 r x.2
def G4:List AK→Nat
 | []=>0
 | k :: r=>k.sz+G4 r
def RK.at:(k:RK)→k.ty→List At
 | .int k,n=>[.s (.int k n)]
 | .bool,b=>[.s (.bool b)]
 | .rt,r=>[.R r]
 | .pt,p=>[.P p]
 | .i3,x=>[.s (.int .i64 x.1), .s (.int .i64 x.2.1), .s (.int .i64 x.2.2)]
 | .wd,x=>[.W x]
 | .row l,x=>ad1 l x
def RK.esz:RK→Nat
 | .int _=>1 | .bool=>1 | .rt=>66 | .pt=>132 | .i3=>3 | .wd=>33 | .row l=>G4 l
def ofInt (k:IntKind):List At→Option Int
 | [.s (.lit k' n)]=>if k=k' then some n else none
 | [.s (.int k' n)]=>if k=k' then some n else none
 | _=>none
def amN:List At→Option Bool
 | [.s (.tt b)]=>some b
 | [.s (.bool b)]=>some b
 | _=>none
def Fb:List At→Option Rt
 | [.R r]=>some r
 | _=>none
def Fa:List At→Option Pt
 | [.P p]=>some p
 | _=>none
def NB:List At→Option (Int×Int×Int)
 | [.s x, .s y, .s z]=>match x.num,y.num,z.num with
  | some (_, .i64,a),some (_, .i64,b),some (_, .i64,c)=>some (a,b,c)
  | _,_,_=>none
 | _=>none
def Fc:List At→Option Wd
 | [.W r]=>some r
 | _=>none
def AK.of1:(k:AK)→List At→Option k.ty
 | .int k,l=>ofInt k l
 | .bool,l=>amN l
 | .W,l=>Fc l
 | .R,l=>Fb l
 | .P,l=>Fa l
def wC:(ks:List AK)→List At→Option (r6 ks)
 | [],[]=>some ()
 | [],_ :: _=>none
 | k :: r,l=>match mC 400 k.sz l,j9 400 k.sz l with
  | some m,some q=>match k.of1 (merge m),wC r q with
   | some x,some y=>some (x,y)
   | _,_=>none
  | _,_=>none
def RK.of:(k:RK)→List At→Option k.ty
 | .int k,l=>ofInt k l
 | .bool,l=>amN l
 | .rt,l=>Fb l
 | .pt,l=>Fa l
 | .i3,l=>NB l
 | .wd,l=>Fc l
 | .row ks,l=>wC ks l
def AK.dflt:(k:AK)→Alg→k.ty
 | .int _,_=>0
 | .bool,_=>false
 | .W,A=>⟨false,A.zD⟩
 | .R,A=>⟨⟨false,A.zD⟩,⟨false,A.zD⟩⟩
 | .P,A=>⟨⟨⟨false,A.zD⟩,⟨false,A.zD⟩⟩,⟨⟨false,A.zD⟩,⟨false,A.zD⟩⟩⟩
def Ee:(l:List AK)→Alg→r6 l
 | [],_=>()
 | k :: r,A=>(k.dflt A,Ee r A)
def RK.dflt:(k:RK)→Alg→k.ty
 | .int _,_=>0
 | .bool,_=>false
 | .rt,A=>⟨⟨false,A.zD⟩,⟨false,A.zD⟩⟩
 | .pt,A=>⟨⟨⟨false,A.zD⟩,⟨false,A.zD⟩⟩,⟨⟨false,A.zD⟩,⟨false,A.zD⟩⟩⟩
 | .i3,_=>(0,0,0)
 | .wd,A=>⟨false,A.zD⟩
 | .row l,A=>Ee l A
def M5 (A:Alg) (w:Wd):Nat→Option Sc
 | 0=>none
 | o+1=>some (.int .u32 (A.dig w.d o))
def Cu (A:Alg):List At→Nat→Option Sc
 | [],_=>none
 | a :: r,off=>
  if off < a.size then match a with
   | .D d=>some (.int .u32 (A.dig d off))
   | .W w=>match off with
    | 0=>none
    | o+1=>some (.int .u32 (A.dig w.d o))
   | .R x=>if off < 33 then M5 A x.N off else M5 A x.D (off - 33)
   | _=>none
  else Cu A r (off - a.size)
def atD:List At→Nat→Option Dg
 | [],_=>none
 | a :: r,off=>
  match off with
  | 0=>match a with
   | .D d=>some d
   | _=>none
  | 1=>match a with
   | .W w=>some w.d
   | .R x=>some x.N.d
   | _=>if a.size == 1 then atD r 0 else none
  | o+2=>if a.size≤o+2 then atD r (o+2 - a.size) else match a with
   | .R r=>if o+2 == 34 then some r.D.d else none
   | _=>none
def atE (l:List At) (base:Nat):Option (Dg×Dg):=match j9 400 base l with
 | some (.D a :: .D b :: _)=>some (a,b)
 | _=>none
def AN (agg:Bool) (l:List At):Option CV:=
 if agg then some (.g (merge l)) else match l with
  | [.s x]=>some (.s x)
  | _=>none
def zL (heap:bT) (t:Nat) (p:Sc):Option FR:=
 match K.T t with
 | none=>none
 | some i=>match p with
  | .hp id off=>match aN heap id with
   | some (.fix _ l)=>match Ms l off i.size with
    | some m=>match AN i.agg m with
     | some v=>dW v
     | none=>none
    | none=>if i.size == 1&& !i.agg then match Cu K.A l off with
      | some x=>dW (.s x)
      | none=>none else none
   | _=>none
  | .pe id base esz n o=>match aN heap id with
   | some (.fix _ l)=>if esz == 1&&o == 0&&i.size == 1&& !i.agg then match atE l base with
     | some (d,e)=>pureO [K.A.cmp .leq 0 n,K.A.cmp .lss n 64] (.s (.int .u32 (K.A.dig2 d e n)))
     | none=>match atD l base with
      | some d=>pureO [K.A.cmp .leq 0 n,K.A.cmp .lss n 32] (.s (.int .u32 (K.A.dig d n)))
      | none=>none else none
   | _=>none
  | .ve id esz n off=>match aN heap id with
   | some (.vec _ k l)=>match Ms (k.at (K.A.get l n (k.dflt K.A))) off i.size with
    | some m=>match AN i.agg m with
     | some v=>if esz == k.esz then pureO [K.A.cmp .leq 0 n,K.A.cmp .lss n (K.A.len l)] v else none
     | none=>none
    | none=>none
   | _=>none
  | _=>none
def wrR (ob:List Bool) (id:Nat) (b:Blk):Option FR:=some ⟨ob, .c (.s .un),[],[(id,b)]⟩
def wS (A:Alg):List At→Nat→Int→Option (List At)
 | [],_,_=>none
 | a :: r,off,z=>
  if off < a.size then match a with
   | .D d=>some (.D (A.setD d off z) :: r)
   | .W w=>match off with
    | 0=>none
    | o+1=>some (.W ⟨w.neg,A.setD w.d o z⟩ :: r)
   | _=>none
  else match wS A r (off - a.size) z with
   | some m=>some (a :: m)
   | none=>none
def xR (heap:bT) (t:Nat) (p:Sc) (v:CV):Option FR:=
 match K.T t with
 | none=>none
 | some i=>if bO v.atoms == i.size&&jD v.atoms then match p with
  | .hp id off=>match aN heap id with
   | some (.fix true l)=>match Ff l off v.atoms with
    | some m=>wrR [] id (.fix true m)
    | none=>match v with
     | .s x=>match x.num with
      | some (_, .u32,z)=>match wS K.A l off z with
       | some m=>wrR [K.A.cmp .leq 0 z,K.A.cmp .lss z 4294967296] id (.fix true m)
       | none=>none
      | _=>none
     | .g _=>none
   | _=>none
  | .pe id base esz n o=>match aN heap id,v with
   | some (.fix true l), .s x=>if esz == 1&&o == 0&&i.size == 1&& !i.agg then match atE l base,x.num with
     | some (d,e),some (_, .u32,z)=>match Ff l base [.D (K.A.setLo d n z), .D (K.A.setHi e n z)] with
      | some m=>wrR [K.A.cmp .leq 0 n,K.A.cmp .lss n 64,K.A.cmp .leq 0 z,K.A.cmp .lss z 4294967296] id (.fix true m)
      | none=>none
     | none,some (_, .u32,z)=>match atD l base with
      | some d=>match Ff l base [.D (K.A.setD d n z)] with
       | some m=>wrR [K.A.cmp .leq 0 n,K.A.cmp .lss n 32,K.A.cmp .leq 0 z,K.A.cmp .lss z 4294967296] id (.fix true m)
       | none=>none
      | none=>none
     | _,_=>none else none
   | _,_=>none
  | .ve id esz n off=>match aN heap id with
   | some (.vec true k l)=>if off == 0&&esz == k.esz&&i.size == k.esz then match k.of v.atoms with
     | some e=>wrR [K.A.cmp .leq 0 n,K.A.cmp .lss n (K.A.len l)] id (.vec true k (K.A.set l n e))
     | none=>none else if esz == k.esz then match Ff (k.at (K.A.get l n (k.dflt K.A))) off v.atoms with
     | some m=>match k.of m with
      | some e=>wrR [K.A.cmp .leq 0 n,K.A.cmp .lss n (K.A.len l)] id (.vec true k (K.A.set l n e))
      | none=>none
     | none=>none else none
   | _=>none
  | _=>none else none
def xN (heap:bT) (t:Nat) (p:Sc) (f:Nat):Option FR:=
 match K.T t with
 | some i=>match i.fields[f]? with
  | some (o,_)=>match p with
   | .hp id off=>match aN heap id with
    | some (.fix _ _)=>dW (.s (.hp id (off+o)))
    | _=>none
   | .ve id e n off=>match aN heap id with
    | some (.vec _ _ l)=>pureO [K.A.cmp .leq 0 n,K.A.cmp .lss n (K.A.len l)] (.s (.ve id e n (off+o)))
    | _=>none
   | _=>none
  | none=>none
 | none=>none
def I9 (heap:bT) (t:Nat) (p x:Sc):Option FR:=
 match K.T t with
 | some i=>match i.arr,p,x.num with
  | some (n,_,e), .hp id off,some (true,_,j)=>match aN heap id with
   | some (.fix _ _)=>if aP .leq 0 j&&aP .lss j n then dW (.s (.hp id (off+j.toNat*e))) else none
   | _=>none
  | some (n,_,e), .hp id off,some (false,_,j)=>match aN heap id with
   | some (.fix _ _)=>pureO [K.A.cmp .leq 0 j,K.A.cmp .lss j n] (.s (.pe id off e j 0))
   | _=>none
  | some (n,_,e), .ve id z m off,some (true,_,j)=>match aN heap id with
   | some (.vec _ _ l)=>if aP .leq 0 j&&aP .lss j n then pureO [K.A.cmp .leq 0 m,K.A.cmp .lss m (K.A.len l)] (.s (.ve id z m (off+j.toNat*e))) else none
   | _=>none
  | none, .hs id,some (_,_,j)=>match i.elem,aN heap id with
   | some (_,e,_),some (.vec _ _ l)=>pureO [K.A.cmp .leq 0 j,K.A.cmp .lss j (K.A.len l)] (.s (.ve id e j 0))
   | _,_=>none
  | none, .hw id z lo hi,some (_,_,j)=>match i.elem,aN heap id with
   | some (_,e,_),some (.vec _ _ l)=>if z == e then pureO [K.A.cmp .leq 0 lo,K.A.cmp .leq hi (K.A.len l),K.A.cmp .leq 0 j,K.A.cmp .lss (K.A.iadd lo j) hi] (.s (.ve id e (K.A.iadd lo j) 0)) else none
   | _,_=>none
  | none, .ha id off z lo hi n,some (_,_,j)=>match i.elem,aN heap id with
   | some (_,e,_),some (.fix _ _)=>if z == e then pureO [K.A.cmp .leq 0 lo,K.A.cmp .leq hi n,K.A.cmp .leq 0 j,K.A.cmp .lss (K.A.iadd lo j) hi] (.s (.pe id off e (K.A.iadd lo j) 0)) else none
   | _,_=>none
  | _,_,_=>none
 | none=>none
def PK (t:Nat) (p x:Sc):Option FR:=
 match K.T t with
 | some i=>match i.sc,p,x.num with
  | some .str, .str s,some (_,_,j)=>pureO [K.A.cmp .leq 0 j,K.A.cmp .lss j (K.A.slen s)] (.s (.int .u8 (K.A.sb s j)))
  | _,_,_=>none
 | none=>none
def Lm:List At→Option (List ByteArray)
 | []=>some []
 | .s (.str b) :: r=>match Lm r with
  | some l=>some (b :: l)
  | none=>none
 | _=>none
def BZ:List At→Option (List Bool)
 | []=>some []
 | .s x :: r=>match x.boo,BZ r with
  | some (_,b),some l=>some (b :: l)
  | _,_=>none
 | _=>none
def B1 (k:IntKind):List At→Option (List Int)
 | []=>some []
 | .s x :: r=>match x.num,B1 k r with
  | some (_,k',b),some l=>if k=k' then some (b :: l) else none
  | _,_=>none
 | _=>none
def D4 (A:Alg) (l:List At) (j:Int):Option Sc:=match l with
 | .s x :: _=>match x.num with
  | some (_,k,_)=>match B1 k l with
   | some m=>some (.int k (A.get m j 0))
   | none=>none
  | none=>match x.boo with
   | some _=>match BZ l with
    | some m=>some (.bool (A.get m j false))
    | none=>none
   | none=>match Lm l with
    | some m=>some (.str (A.get m j ByteArray.empty))
    | none=>none
 | _=>none
def xO (t:Nat) (l:List At) (x:Sc):Option FR:=
 match K.T t with
 | some i=>match i.arr,x.num with
  | some (n,e,1),some (_,_,j)=>match K.T e with
   | some ie=>match ie.agg,l.length == n with
    | false,true=>match D4 K.A l j with
     | some y=>pureO [K.A.cmp .leq 0 j,K.A.cmp .lss j n] (.s y)
     | none=>none
    | _,_=>none
   | none=>none
  | _,_=>none
 | none=>none
def xP (t:Nat) (l:List At) (x:Sc):Option FR:=match K.T t with
 | some i=>match i.arr,x.num with
  | some (n,e,z),some (true,_,j)=>match K.T e with
   | some ie=>if ie.agg&&ie.size == z&&aP .leq 0 j&&aP .lss j n then match Ms l (j.toNat*z) z with
    | some m=>dW (.g (merge m))
    | none=>none else none
   | none=>none
  | _,_=>none
 | none=>none
def MY (t:Nat):Bool:=match K.T t with
 | some i=>match i.arr with
  | some (_,e,_)=>match K.T e with
   | some ie=>ie.agg
   | none=>false
  | none=>false
 | none=>false
def CG (t:Nat) (l:List At) (x:Sc):Option FR:=match MY K t with
 | true=>xP K t l x
 | false=>xO K t l x
def bnd (v:Option Sc) (d:Int):Option Int:=match v with
 | none=>some d
 | some x=>match x.num with
  | some (_,_,j)=>some j
  | none=>none
def lo0:Option Sc→Bool
 | none=>true
 | some (.lit _ n)=>n == 0
 | _=>false
def xQ (heap:bT) (t:Nat) (x:Sc) (lo hi:Option Sc):Option FR:=
 match K.T t with
 | none=>none
 | some i=>match i.elem with
  | none=>match i.arr,x with
   | some (n,_,e), .hp id off=>match aN heap id with
    | some (.fix _ _)=>match bnd lo 0,bnd hi n with
     | some a,some b=>pureO [K.A.cmp .leq 0 a,K.A.cmp .leq a b,K.A.cmp .leq b n] (.s (.ha id off e a b n))
     | _,_=>none
    | _=>none
   | none, .str s=>match i.sc with
    | some .str=>match bnd lo 0,bnd hi (K.A.slen s) with
     | some a,some b=>pureO [K.A.cmp .leq 0 a,K.A.cmp .leq a b,K.A.cmp .leq b (K.A.slen s)] (.s (.str (K.A.ssub s a b)))
     | _,_=>none
    | _=>none
   | _,_=>none
  | some (_,e,_)=>match x with
   | .hs id=>match aN heap id with
    | some (.vec _ _ l)=>match bnd lo 0,bnd hi (K.A.len l) with
     | some a,some b=>pureO [K.A.cmp .leq 0 a,K.A.cmp .leq a b,K.A.cmp .leq b (K.A.len l)] (.s (.hw id e a b))
     | _,_=>none
    | _=>none
   | .hw id z lo' hi'=>match aN heap id with
    | some (.vec _ _ l)=>if z == e then match bnd lo 0,bnd hi (K.A.isub hi' lo') with
     | some a,some b=>match lo0 lo with
      | true=>pureO [K.A.cmp .leq 0 lo',K.A.cmp .leq lo' hi',K.A.cmp .leq hi' (K.A.len l),K.A.cmp .leq 0 b,K.A.cmp .leq (K.A.iadd lo' b) hi'] (.s (.hw id e lo' (K.A.iadd lo' b)))
      | false=>pureO [K.A.cmp .leq 0 lo',K.A.cmp .leq hi' (K.A.len l),K.A.cmp .leq 0 a,K.A.cmp .leq a b,K.A.cmp .leq (K.A.iadd lo' b) hi',K.A.cmp .lss (K.A.iadd lo' a) (K.A.len l)] (.s (.hw id e (K.A.iadd lo' a) (K.A.iadd lo' b)))
     | _,_=>none else none
    | _=>none
   | _=>none
def rdO (env:List (Nat×Ent)) (gs:List (Nat×Bool)):Option Operand→Option (Option Sc)
 | none=>some none
 | some x=>match rdS env gs x with
  | some v=>some (some v)
  | none=>none
def rX (offs:Nat→Option (Nat×Nat)):List At→List (Nat×CV)→Option (List At)
 | l,[]=>some l
 | l,(i,v) :: r=>match offs i with
  | some (o,z)=>if bO v.atoms == z&&jD v.atoms then match Ff l o v.atoms with
   | some m=>rX offs m r
   | none=>none else none
  | none=>none
def AX (A:Alg):Dg→List (Nat×CV)→Option (List Bool×Dg)
 | d,[]=>some ([],d)
 | d,(i,v) :: r=>match v with
  | .s x=>match x.num with
   | some (_, .u32,z)=>if i < 32 then match AX A (A.setD d i z) r with
    | some (ob,e)=>some (A.cmp .leq 0 z :: A.cmp .lss z 4294967296 :: ob,e)
    | none=>none else none
   | _=>none
  | .g _=>none
def CE (A:Alg) (l:List At) (e:Nat) (parts:List (Nat×CV)):Option FR:=match l,e with
 | [.D d],1=>match AX A d parts with
  | some (ob,d')=>pureO ob (.g [.D d'])
  | none=>none
 | _,_=>none
def xL (t:Nat) (parts:List (Nat×CV)):Option FR:=
 match K.T t with
 | some i=>if jD i.zero.atoms then match i.arr with
  | some (_,_,e)=>match rX (fun j=>some (j*e,e)) i.zero.atoms parts with
   | some l=>dW (.g l)
   | none=>CE K.A i.zero.atoms e parts
  | none=>match i.fields with
   | []=>none
   | f :: fs=>match rX (fun j=>(f :: fs)[j]?) i.zero.atoms parts with
    | some l=>dW (.g l)
    | none=>none else none
 | none=>none
def BI (k:RK):List (Nat×CV)→Nat→Option (List k.ty)
 | [],_=>some []
 |(i,v) :: r,n=>if i == n then match k.of v.atoms,BI k r (n+1) with
    | some e,some l=>some (e :: l)
    | _,_=>none else none
def oK (env:List (Nat×Ent)) (gs:List (Nat×Bool)):List (Nat×Operand)→Option (List (Nat×CV))
 | []=>some []
 |(i,x) :: r=>match rdC env gs x,oK env gs r with
  | some v,some l=>some ((i,v) :: l)
  | _,_=>none
def j6 (env:List (Nat×Ent)) (gs:List (Nat×Bool)):List Operand→Option (List CV)
 | []=>some []
 | x :: r=>match rdC env gs x,j6 env gs r with
  | some v,some l=>some (v :: l)
  | _,_=>none
def P7:List Nat→Bool
 | [t]=>match K.T t with
  | some i=>i.elem.isSome
  | none=>false
 | _=>false
def Nh:List Nat→Bool
 | [t]=>match K.T t with
  | some i=>i.sc == some .str
  | none=>false
 | _=>false
def Jb (f:Int→Int→Int) (k:IntKind):Int→List CV→Option FR
 | n,[]=>dW (.s (.int k n))
 | n, .s x :: r=>match x.num with
  | some (_,k',m)=>if k=k' then Jb f k (f n m) r else none
  | none=>none
 | _,_=>none
def Jc (heap:bT) (t:Nat) (x:Sc):Option FR:=match K.T t with
 | some i=>match i.arr,x with
  | some (n,_,_), .ha id off _ lo hi c=>match aN heap id with
   | some (.fix _ _)=>if lo == 0&&decide (0 < c) then pureO [K.A.cmp .leq n hi,K.A.cmp .leq hi c] (.s (.hp id off)) else none
   | _=>none
  | _,_=>none
 | none=>none
def CF (nid:Nat) (t:Nat) (l c:Sc):Option FR:=match K.T t with
 | some i=>match i.elem,l.num,c.num with
  | some (_,_,k),some (_, .i64,n),some (_, .i64,m)=>some ⟨[K.A.cmp .leq 0 n,K.A.cmp .eql n m,K.A.cmp .leq n 1000000], .c (.s (.hs nid)),[.vec true k (K.A.rep n (k.dflt K.A))],[]⟩
  | _,_,_=>none
 | none=>none
def RK.cast:(k k':RK)→List k.ty→Option (List k'.ty)
 | .int a, .int b,l=>if a=b then some l else none
 | .bool, .bool,l=>some l
 | .rt, .rt,l=>some l
 | .pt, .pt,l=>some l
 | .i3, .i3,l=>some l
 | .wd, .wd,l=>some l
 | .row a, .row b,l=>if h:a=b then some (h ▸ l) else none
 | _,_,_=>none
def aqD (k:RK):Nat→List At→Option (List k.ty)
 | 0,_=>some []
 | n+1,l=>match mC 400 k.esz l,j9 400 k.esz l with
  | some m,some q=>match k.of (merge m),aqD k n q with
   | some x,some r=>some (x :: r)
   | _,_=>none
  | _,_=>none
def BC (heap:bT) (k:RK) (x:Sc):Option (List Bool×List k.ty):=match x with
 | .hs id=>match aN heap id with
  | some (.vec _ k' l)=>match k'.cast k l with
   | some m=>some ([],m)
   | none=>none
  | _=>none
 | .hw id z lo hi=>match aN heap id with
  | some (.vec _ k' l)=>match k'.cast k l with
   | some m=>if z == k.esz then some ([K.A.cmp .leq 0 lo,K.A.cmp .leq lo hi,K.A.cmp .leq hi (K.A.len m)],K.A.sub m lo hi) else none
   | none=>none
  | _=>none
 | .nils=>some ([],[])
 | .ha id off z lo hi n=>match aN heap id with
  | some (.fix _ l)=>match j9 400 off l with
   | some q=>match aqD k n q with
    | some m=>if z == k.esz then some ([K.A.cmp .leq 0 lo,K.A.cmp .leq lo hi,K.A.cmp .leq hi n],K.A.sub m lo hi) else none
    | none=>none
   | none=>none
  | _=>none
 | _=>none
def SL:Sc→Nat→Bool
 | .hs i,j=>i == j
 | .hw i _ _ _,j=>i == j
 | _,_=>false
def I7 (heap:bT) (nid:Nat) (ts:List Nat) (s x:Sc):Option FR:=match ts with
 | [t,u]=>match K.T t,K.T u with
  | some i,some j=>match i.elem,j.elem with
   | some (e,_,k),some (e',_,_)=>if e == e' then match BC K heap k x with
     | some (ob,m)=>match s with
      | .nils=>some ⟨K.A.cmp .leq (K.A.len m) 1000000 :: ob, .c (.s (.hs nid)),[.vec true k m],[]⟩
      | .hs id=>if SL x id then none else match aN heap id with
       | some (.vec true k' l)=>match k'.cast k l with
        | some q=>some ⟨K.A.cmp .leq (K.A.iadd (K.A.len q) (K.A.len m)) 1000000 :: ob, .c (.s (.hs nid)),[.vec true k (K.A.app q m)],[(id, .gone)]⟩
        | none=>none
       | _=>none
      | _=>none
     | none=>none else none
   | _,_=>none
  | _,_=>none
 | _=>none
def CD (heap:bT) (ts:List Nat) (x y:Sc):Option FR:=match ts with
 | [t,_]=>match K.T t with
  | some i=>match i.elem,x with
   | some (_,1, .int .u32), .ha id off 1 lo hi 32=>match aN heap id with
    | some (.fix true l)=>match atE l off,atD l off,BC K heap (.int .u32) y with
     | none,some d,some (ob,m)=>match Ff l off [.D (K.A.copyD d lo hi m)] with
      | some q=>some ⟨[K.A.cmp .leq 0 lo,K.A.cmp .leq lo hi,K.A.cmp .leq hi 32,K.A.all32 m]++ob, .c (.s (.int .i64 (K.A.mn (K.A.len m) (K.A.isub hi lo)))),[],[(id, .fix true q)]⟩
      | none=>none
     | _,_,_=>none
    | _=>none
   | _,_=>none
  | none=>none
 | _=>none
def ai3 (heap:bT) (ts:List Nat) (x:Sc):Option FR:=match ts,x with
 | [t], .hw id z lo hi=>match K.T t,aN heap id with
  | some i,some (.vec true k l)=>match i.elem with
   | some (_,_,k2)=>match k2.cast k [k2.dflt K.A] with
    | some [d]=>match z == k.esz with
     | true=>some ⟨[K.A.cmp .leq 0 lo,K.A.cmp .lss lo hi,K.A.cmp .leq hi (K.A.len l)], .t [],[],[(id, .vec true k (K.A.app (K.A.sub l 0 lo) (K.A.app (K.A.rep (K.A.isub hi lo) d) (K.A.sub l hi (K.A.len l)))))]⟩
     | false=>none
    | _=>none
   | none=>none
  | _,_=>none
 | _,_=>none
def xM (heap:bT) (src dst:Nat) (x:Sc):Option FR:=match K.T src,K.T dst with
 | some i,some j=>match i.elem,j.sc with
  | some (_,_, .int .u8),some .str=>match BC K heap (.int .u8) x with
   | some (ob,m)=>pureO ob (.s (.str (K.A.ofB m)))
   | none=>none
  | _,_=>none
 | _,_=>none
def vN:List CV→Option (List (Nat×Nat))
 | []=>some []
 | .s (.hp i o) :: r=>match vN r with
  | some l=>some ((i,o) :: l)
  | none=>none
 | _=>none
def Mi (s:St) (gs:List (Nat×Bool)):Op→Option FR
 | .move x=>match rdX s.env gs x with
  | some v=>some ⟨[],v,[],[]⟩
  | none=>none
 | .assign x=>match rdX s.env gs x with
  | some v=>some ⟨[],v,[],[]⟩
  | none=>none
 | .pick c a b=>match c with
  | .tmp t=>match rdS s.env gs c with
   | some (.tt true)=>match rdX s.env gs a with
    | some v=>some ⟨[],v,[],[]⟩
    | none=>none
   | some (.tt false)=>match rdX s.env gs b with
    | some v=>some ⟨[],v,[],[]⟩
    | none=>none
   | some (.bool z)=>match rdS s.env ((t,true) :: gs) a,rdS s.env ((t,false) :: gs) b with
    | some x,some y=>match x.boo,y.boo with
     | some (_,p),some (_,q)=>dW (.s (.bool (K.A.ite z p q)))
     | _,_=>none
    | _,_=>none
   | _=>none
  | _=>none
 | .alloc t=>match K.T t with
  | some i=>if jD i.zero.atoms then some ⟨[], .c (.s (.hp s.nid 0)),[.fix true i.zero.atoms],[]⟩ else none
  | none=>none
 | .box t x=>match K.T t,rdC s.env gs x with
  | some i,some v=>if bO v.atoms == i.size&&jD v.atoms then some ⟨[], .c (.s (.hp s.nid 0)),[.fix true v.atoms],[]⟩ else none
  | _,_=>none
 | .build t ps=>match oK s.env gs ps.toList with
  | some l=>xL K t l
  | none=>none
 | .buildSlice t n ps=>match K.T t,oK s.env gs ps.toList with
  | some i,some l=>match i.elem with
   | some (_,_,k)=>match BI k l 0 with
    | some es=>if es.length == n&&decide (0 < n)&&decide (n < 1000) then some ⟨[], .c (.s (.hs s.nid)),[.vec true k es],[]⟩ else none
    | none=>none
   | none=>none
  | _,_=>none
 | .load t x=>match rdS s.env gs x with
  | some p=>zL K s.heap t p
  | none=>none
 | .store t x y=>match rdS s.env gs x,rdC s.env gs y with
  | some p,some v=>xR K s.heap t p v
  | _,_=>none
 | .nilCheck x=>match rdS s.env gs x with
  | some (.hp id off)=>match aN s.heap id with
   | some (.fix _ _)=>dW (.s (.hp id off))
   | _=>none
  | _=>none
 | .binOp op t x y _=>match rdC s.env gs x,rdC s.env gs y with
  | some a,some b=>agR K op t a b
  | _,_=>none
 | .unOp op _ x=>match rdS s.env gs x with
  | some a=>PL K op a
  | none=>none
 | .convert src dst x=>match rdS s.env gs x with
  | some a=>match a.num with
   | some _=>CC K src dst a
   | none=>xM K s.heap src dst a
  | none=>none
 | .sliceToArrayPointer t x=>match rdS s.env gs x with
  | some a=>Jc K s.heap t a
  | none=>none
 | .makeSlice t l c=>match rdS s.env gs l,rdS s.env gs c with
  | some a,some b=>CF K s.nid t a b
  | _,_=>none
 | .makeFunc fn first caps=>match fn,first.toList,j6 s.env gs caps.toList with
  | .func f,[],some l=>match vN l with
   | some cs=>dW (.s (.fn f cs))
   | none=>none
  | _,_,_=>none
 | .fieldAddr t x f=>match rdS s.env gs x with
  | some p=>xN K s.heap t p f
  | none=>none
 | .indexAddr t x i=>match rdS s.env gs x,rdS s.env gs i with
  | some p,some j=>I9 K s.heap t p j
  | _,_=>none
 | .index t x i=>match rdC s.env gs x,rdS s.env gs i with
  | some (.s p),some j=>PK K t p j
  | some (.g l),some j=>CG K t l j
  | _,_=>none
 | .slice t x lo hi mx=>match mx,rdS s.env gs x,rdO s.env gs lo,rdO s.env gs hi with
  | none,some p,some a,some b=>xQ K s.heap t p a b
  | _,_,_,_=>none
 | .extract x i=>match rdX s.env gs x with
  | some (.t l)=>match l[i]? with
   | some v=>dW v
   | none=>none
  | _=>none
 | .call c=>match c.callee with
  | .value (.func f)=>match K.C f,j6 s.env gs c.args.toList with
   | some sem,some l=>sem s.nid l s.heap
   | _,_=>none
  | .value (.tmp t)=>match rdS s.env gs (.tmp t),j6 s.env gs c.args.toList with
   | some (.fn f caps),some l=>match K.C f with
    | some sem=>sem s.nid (l++caps.map fun c=> .s (.hp c.1 c.2)) s.heap
    | none=>none
   | _,_=>none
  | .builtin .len=>match P7 K c.argTypes.toList,j6 s.env gs c.args.toList with
   | true,some [.s (.hs id)]=>match aN s.heap id with
    | some (.vec _ _ l)=>dW (.s (.int .i64 (K.A.len l)))
    | _=>none
   | true,some [.s (.hw id _ lo hi)]=>match aN s.heap id with
    | some (.vec _ _ _)=>pureO [K.A.cmp .leq 0 lo,K.A.cmp .leq lo hi] (.s (.int .i64 (K.A.isub hi lo)))
    | _=>none
   | true,some [.s .nils]=>dW (.s (.lit .i64 0))
   | true,some [.s (.ha id _ _ lo hi n)]=>match aN s.heap id with
    | some (.fix _ _)=>pureO [K.A.cmp .leq 0 lo,K.A.cmp .leq lo hi] (.s (.int .i64 (K.A.isub hi lo)))
    | _=>none
   | false,some [.s (.str x)]=>if Nh K c.argTypes.toList then dW (.s (.int .i64 (K.A.slen x))) else none
   | _,_=>none
  | .builtin .append=>match j6 s.env gs c.args.toList with
   | some [.s x, .s y]=>I7 K s.heap s.nid c.argTypes.toList x y
   | _=>none
  | .builtin .copy=>match j6 s.env gs c.args.toList with
   | some [.s x, .s y]=>CD K s.heap c.argTypes.toList x y
   | _=>none
  | .builtin .clear=>match j6 s.env gs c.args.toList with
   | some [.s x]=>ai3 K s.heap c.argTypes.toList x
   | _=>none
  | .builtin .min=>match j6 s.env gs c.args.toList with
   | some (.s x :: r)=>match x.num with
    | some (_,k,n)=>Jb K.A.mn k n r
    | none=>none
   | _=>none
  | .builtin .max=>match j6 s.env gs c.args.toList with
   | some (.s x :: r)=>match x.num with
    | some (_,k,n)=>Jb K.A.mx k n r
    | none=>none
   | _=>none
  | _=>none
 | _=>none
end
section
variable (K:Cx)
def knF:List Nat→Nat→Option Bool
 | [],_=>none
 | x :: r,t=>match x / 1000000 == 2 with
  | true=>match x / 2 == 1000000+t with
   | true=>some (x % 2 == 1)
   | false=>knF r t
  | false=>none
def knV (dst:Option Nat) (r:FR):FR:=match K.un.keep,dst with
 | some l,some t=>match knF l t with
  | some b=>match r.val with
   | .c (.s (.bool z))=>⟨K.A.beq z b :: r.ob, .c (.s (.tt b)),r.new,r.wr⟩
   | _=>r
  | none=>r
 | _,_=>r
def rV (s:St) (gs:List (Nat×Bool)) (o:Oper):Option FR:=match Mi K s gs o.op with
 | some r=>some (knV K o.dst r)
 | none=>none
def Cx.know (t:Nat) (b:Bool):Cx:= { K with un:=⟨K.un.un,match K.un.keep with
 | some l=>some ((2000000+2*t+b.toNat) :: l)
 | none=>some [2000000+2*t+b.toNat]⟩ }
end
def Df (t:Nat):List Oper→Bool
 | []=>false
 | o :: r=>match o.dst with
  | some t'=>t' == t||Df t r
  | none=>Df t r
def H8:List Nat→List Oper→Option Nat
 | [],_=>none
 | x :: r,ops=>match x / 1000000 == 1 with
  | true=>match Df (x - 1000000) ops with
   | true=>some (x - 1000000)
   | false=>H8 r ops
  | false=>none
def Oq (o:Option (List Nat)) (ops:List Oper):Option Nat:=match o with
 | some l=>H8 l ops
 | none=>none
def abE (o:Option (List Nat)) (ops:List Oper):Option Nat:=match o with
 | some l=>match l.find? fun x=>x / 1000000 == 3&&Df (x - 3000000) ops with
  | some x=>some (x - 3000000)
  | none=>none
 | none=>none
def mJ:List (Nat×Ent)→List (Nat×Ent)
 | []=>[]
 |(t,e) :: r=>match e.gs with
  | []=>(t,e) :: mJ r
  | _=>mJ r
def Mw:List Bool→Prop→Prop
 | [],p=>p
 | b :: r,p=>b=true∧Mw r p
def CA (ops:List Oper) (j:Nat):Option Nat:=match ops[j]? with
 | some o=>o.dst
 | none=>none
def nD (t:Nat):List (Nat×Ent)→Bool
 | []=>false
 |(_,e) :: r=>e.gs.any (fun g=>g.1 == t)||nD t r
def del (t:Nat):List (Nat×Ent)→List (Nat×Ent)
 | []=>[]
 |(j,e) :: r=>if j == t then del t r else(j,e) :: del t r
def put (env:List (Nat×Ent)) (t:Nat) (e:Ent):List (Nat×Ent):=(t,e) :: del t env
section
variable (K:Cx)
def St.take (s:St) (dst:Option Nat) (gs:List (Nat×Bool)) (r:FR):St:=
 {env:=match dst with
   | some t=>put s.env t ⟨gs,r.val⟩
   | none=>s.env
  heap:=rT (oS s.heap r.wr) s.nid r.new
  nid:=s.nid+r.new.length }
def Jx (g:Bool):List Bool→List Bool
 | []=>[]
 | x :: r=>K.A.imp g x :: Jx g r
inductive Gd where
 | off
 | on
 | sym (gs:List (Nat×Bool))
 | bad
def kF (ops:List Oper) (s:St) (o:Oper):Gd:=
 match o.guard with
 | none=> .on
 | some (j,want)=>match CA ops j with
  | none=> .bad
  | some t=>match aN s.env t with
   | some ⟨gs, .c (.s (.tt b))⟩=>match gs with
    | []=>if b == want then .on else .off
    | g :: r=>if b == want then .sym (g :: r) else .off
   | some ⟨gs, .c (.s (.bool _))⟩=> .sym ((t,want) :: gs)
   | some ⟨gs, .c (.s .un)⟩=>match gs with
    | []=> .off
    | _ :: _=> .off
   | _=> .bad
def bG (env:List (Nat×Ent)):List (Nat×Bool)→Bool
 | []=>true
 |(t,w) :: r=>match aN env t with
  | some ⟨_, .c (.s (.bool b))⟩=>match r with
   | []=>K.A.beq b w
   | _ :: _=>K.A.and (bG env r) (K.A.beq b w)
  | _=>false
def oG (dst:Option Nat) (gs:List (Nat×Bool)) (env:List (Nat×Ent)):Bool:=
 match dst with
 | none=>true
 | some t=>decide (t < K.N)&& !nD t env&& !gs.any (fun g=>g.1 == t)
def gH (t:Nat) (b:Bool):List (Nat×Ent)→List (Nat×Ent)
 | []=>[]
 |(j,e) :: r=>(j,if j == t then⟨[], .c (.s (.tt b))⟩ else if e.gs.any (fun g=>g.1 == t&&g.2 == !b) then⟨[], .c (.s .un)⟩ else⟨e.gs.filter (fun g=> !(g.1 == t)),e.v⟩) :: gH t b r
def lB (env:List (Nat×Ent)):List (Nat×Ent)→Bool
 | []=>true
 |(_,e) :: r=>e.gs.all (fun g=>match aN env g.1 with
  | some ⟨_, .c (.s (.bool _))⟩=>true
  | _=>false)&&lB env r
def Nj:List (Nat×Bool)→Option Nat
 | []=>none
 | [g]=>some g.1
 | _ :: r=>Nj r
def wJ (ops:List Oper) (o:Oper):Nat→St→(St→Prop)→Prop
 | 0,_,_=>False
 | m+1,s,k=>match kF ops s o with
  | .sym gs=>match Mi K s gs o.op with
   | some r=>match r.new,r.wr with
    | [],[]=>k s
    | _,_=>match Nj gs with
     | some t=>match aN s.env t with
      | some ⟨[], .c (.s (.bool z))⟩=>match lB (gH t true s.env) (gH t true s.env),lB (gH t false s.env) (gH t false s.env) with
       | true,true=>(z=true→wJ ops o m { s with env:=gH t true s.env } k)∧(z=false→wJ ops o m { s with env:=gH t false s.env } k)
       | _,_=>False
      | _=>False
     | none=>False
   | none=>False
  | _=>k s
def rL (ops:List Oper):List Oper→St→(St→Prop)→Prop
 | [],s,k=>k s
 | o :: rest,s,k=>wJ K ops o 6 s fun s=>
  match kF ops s o with
  | .bad=>False
  | .off=>if oG K o.dst [] s.env then rL ops rest (s.take o.dst [] ⟨[], .c (.s .un),[],[]⟩) k else False
  | .on=>match Mi K s [] o.op with
   | some r=>if oG K o.dst [] s.env then Mw r.ob (rL ops rest (s.take o.dst [] r) k) else False
   | none=>False
  | .sym gs=>match Mi K s gs o.op with
   | some r=>match r.new,r.wr with
    | [],[]=>if oG K o.dst gs s.env then Mw (Jx K (bG K s.env gs) r.ob) (rL ops rest (s.take o.dst gs r) k) else False
    | _,_=>False
   | none=>False
structure cL where
 dst:Option Nat
 cl:Nat
 id:Nat
 new:List Blk
 rd:List Nat
 wr:bT
 tch:List Nat
def Sc.ids:Sc→List Nat
 | .hp i _=>[i]
 | .pe i _ _ _ _=>[i]
 | .hs i=>[i]
 | .ve i _ _ _=>[i]
 | .hw i _ _ _=>[i]
 | .ha i _ _ _ _ _=>[i]
 | .hm i=>[i]
 | .fn _ caps=>caps.map (·.1)
 | _=>[]
def Pr:List At→List Nat
 | []=>[]
 | .s x :: r=>x.ids++Pr r
 | _ :: r=>Pr r
def CV.ids:CV→List Nat
 | .s x=>x.ids
 | .g l=>Pr l
def XV.ids:XV→List Nat
 | .c v=>v.ids
 | .t l=>l.flatMap CV.ids
def RI:List (Nat×Ent)→List Nat
 | []=>[]
 |(_,e) :: r=>e.v.ids++RI r
def gJ (l:List Nat):bT→bT
 | []=>[]
 |(i,b) :: r=>if l.contains i then(i,b) :: gJ l r else gJ l r
def Kh:Op→Bool
 | .move _=>true
 | .assign _=>true
 | .pick .. =>true
 | .alloc _=>true
 | .box .. =>true
 | .build .. =>true
 | .buildSlice .. =>true
 | .binOp .. =>true
 | .unOp .. =>true
 | .extract .. =>true
 | _=>false
def Rd (o:Oper) (envj:List (Nat×Ent)):List Nat:=match Kh o.op with
 | true=>[]
 | false=>RI envj
def Cq (h:bT):List Nat→List Nat
 | []=>[]
 | i :: r=>i :: (match aN h i with
  | some (.fix _ l)=>Pr l++Cq h r
  | _=>Cq h r)
def OV (o:Oper) (h:bT) (l:List Nat):List Nat:=match o.op with
 | .call _=>Cq h l
 | _=>l
def fE:bT→List cL→Nat→(Nat→Bool)→bT
 | h,[],_,_=>h
 | h,f :: r,j,c=>fE (match c j with
  | true=>rT (oS h f.wr) f.id f.new
  | false=>h) r (j+1) c
def r4 (t:Nat):List cL→Nat→Option Nat
 | [],_=>none
 | f :: r,j=>if f.dst == some t then some j else r4 t r (j+1)
def clE (F:List cL):List Edge→Option Nat
 | []=>some 0
 | e :: r=>match clE F r with
  | none=>none
  | some m=>match e.ground with
   | .textOnly _=>some m
   | .gcOnly _=>some m
   | _=>match F[e.on]? with
    | some f=>some (m||| 2 ^ e.on||| f.cl)
    | none=>none
def Ag:List Operand→List Nat
 | []=>[]
 | .tmp t :: r=>t :: Ag r
 | _ :: r=>Ag r
def sN (R:List Nat):List (Nat×Ent)→List (Nat×Ent)
 | []=>[]
 |(t,e) :: r=>if R.contains t then(t,e) :: sN R r else sN R r
def P3 (env:List (Nat×Ent)):List Nat→List Nat
 | []=>[]
 | t :: r=>match aN env t with
  | some e=>e.gs.map (·.1)++P3 env r
  | none=>P3 env r
def p8 (R:List Nat) (F:List cL) (cl:Nat):List (Nat×Ent)→Bool
 | []=>true
 |(t,e) :: r=>e.gs.all (fun g=>R.contains g.1)&&(match r4 t F 0 with
    | none=>true
    | some m=>cl.testBit m)&&p8 R F cl r
structure FS where
 env:List (Nat×Ent)
 F:List cL
 ob:List Bool
 id:Nat
def zR (full:List Oper) (o:Oper):List Nat:=match o.guard with
 | none=>[]
 | some (j,_)=>match CA full j with
  | some t=>[t]
  | none=>[]
def oO (full:List Oper) (env:List (Nat×Ent)) (o:Oper):List Nat:=
 (Ag o.op.operands.toList++zR full o)++P3 env (Ag o.op.operands.toList++zR full o)
def BB (dst:Option Nat) (env:List (Nat×Ent)) (e:Ent):List (Nat×Ent):=match dst with
 | some t=>put env t e
 | none=>env
def FS.push (q:FS) (dst:Option Nat) (gs:List (Nat×Bool)) (v:XV) (cl:Nat) (new:List Blk) (rd:List Nat) (wr:bT) (tch:List Nat) (ob:List Bool):FS:=
 ⟨BB dst q.env ⟨gs,v⟩,q.F++[⟨dst,cl,q.id,new,rd,wr,tch⟩],q.ob++ob,q.id+new.length⟩
def dis (a b:List Nat):Bool:=a.all fun x=> !b.contains x
def vO (cl:Nat) (wrk tch:List Nat):List cL→Nat→Bool
 | [],_=>true
 | f :: r,j=>(cl.testBit j||(dis (f.wr.map (·.1)) tch&&dis wrk f.tch))&&vO cl wrk tch r (j+1)
def Blk.own:Blk→Bool
 | .fix o _=>o
 | .vec o _ _=>o
 | .gone=>false
def Blk.live:Blk→Bool
 | .gone=>false
 | _=>true
def Mt (tch:List Nat) (h:bT):bT→Bool
 | []=>true
 |(i,_) :: r=>tch.contains i&&(match aN h i with
  | some k=>k.own
  | none=>false)&& !(r.map (·.1)).contains i&&Mt tch h r
def Aj (t cl:Nat):List cL→Nat→Bool
 | [],_=>true
 | f :: r,j=>(if f.rd.contains t then cl.testBit j else true)&&Aj t cl r (j+1)
def uA (dst:Option Nat) (F:List cL) (cl:Nat):Bool:=match dst with
 | none=>true
 | some t=>match r4 t F 0 with
  | none=>Aj t cl F 0
  | some _=>false
def qI (full:List Oper) (heap:bT) (q:FS) (o:Oper):Option FS:=
 match clE q.F o.after.toList with
 | none=>none
 | some cl=>
  let envj:=sN (oO full q.env o) q.env
  let tch:=OV o (fE heap q.F 0 cl.testBit) (Rd o envj)
  let hj:=gJ tch (fE heap q.F 0 cl.testBit)
  if p8 (oO full q.env o) q.F cl envj&&uA o.dst q.F cl then
   match kF full ⟨envj,hj,q.id⟩ o with
   | .bad=>none
   | .off=>if oG K o.dst [] q.env&&vO cl [] tch q.F 0 then some (q.push o.dst [] (.c (.s .un)) cl [] (oO full q.env o) [] tch []) else none
   | .on=>match rV K ⟨envj,hj,q.id⟩ [] o with
    | some r=>if oG K o.dst [] q.env&&Mt tch hj r.wr&&vO cl (r.wr.map (·.1)) tch q.F 0 then some (q.push o.dst [] r.val cl r.new (oO full q.env o) r.wr tch r.ob) else none
    | none=>none
   | .sym gs=>match rV K ⟨envj,hj,q.id⟩ gs o with
    | some r=>match r.wr,r.new with
     | [],[]=>if o.dst.isSome&&oG K o.dst gs q.env&&gs.all (fun g=>(oO full q.env o).contains g.1)&&vO cl [] tch q.F 0 then some (q.push o.dst gs r.val cl [] (oO full q.env o) [] tch (Jx K (bG K envj gs) r.ob)) else none
     | _,_=>none
    | none=>none
  else none
def iD (full:List Oper) (heap:bT):List Oper→FS→Option FS
 | [],q=>some q
 | o :: r,q=>match qI K full heap q o with
  | some q'=>iD full heap r q'
  | none=>none
def vW:Op→Bool
 | .store .. =>false
 | .assign _=>false
 | _=>true
def lU (F:List cL):List Oper→Nat→Bool
 | [],_=>true
 | o :: r,j=>match clE F o.after.toList with
  | some cl=>(cl||| 2 ^ j)+1 == 2 ^ (j+1)&&lU (F++[⟨none,cl,0,[],[],[],[]⟩]) r (j+1)
  | none=>false
def n9:Op→Bool
 | .store .. =>false
 | _=>true
def gC (p:Op→Bool) (ops:List Oper) (s:St) (k:St→Prop) (els:Prop):Prop:=
 let fr:=ops.takeWhile (fun o=>p o.op)
 let tl:=ops.dropWhile (fun o=>p o.op)
 match iD K ops s.heap fr ⟨s.env,[],[],s.nid⟩ with
 | some q=>if lU q.F tl fr.length then Mw q.ob (rL K ops tl ⟨q.env,fE s.heap q.F 0 (fun _=>true),q.id⟩ k) else els
 | none=>els
def RH:List Oper→List cL→Option (List cL)
 | [],F=>some F
 | o :: r,F=>match clE F o.after.toList with
  | some cl=>RH r (F++[⟨none,cl,0,[],[],[],[]⟩])
  | none=>none
def HP (p:Op→Bool) (ops:List Oper):Bool:=
 match RH (ops.takeWhile (fun o=>p o.op)) [] with
 | some F=>lU F (ops.dropWhile (fun o=>p o.op)) (ops.takeWhile (fun o=>p o.op)).length
 | none=>false
def rK (ops:List Oper) (s:St) (k:St→Prop):Prop:=match HP vW ops with
 | true=>gC K vW ops s k (gC K n9 ops s k (gC K (fun _=>true) ops s k False))
 | false=>match HP n9 ops with
  | true=>gC K n9 ops s k (gC K (fun _=>true) ops s k False)
  | false=>gC K (fun _=>true) ops s k False
def BA:Option (List Nat)→List (Nat×Ent)→List (Nat×Ent)
 | none,env=>env
 | some l,env=>env.filter fun x=>l.contains x.1
def We (ops:List Oper) (s:St) (k:St→Prop):Prop:=match abE K.un.keep ops with
 | none=>rK K ops s k
 | some t=>rK (K.know t true) ops s k∨rK (K.know t false) ops s k
def run:Nat→Code→St→(Exit→St→Prop)→Prop
 | 0,_,_,_=>False
 | _+1, .skip,s,k=>k .normal s
 | _+1, .region _ ops draw,s,k=>match draw with
  | true=>match Oq K.un.keep ops.toList with
   | none=>rK K ops.toList { s with env:=mJ s.env } fun s'=>k .normal { s' with env:=BA K.un.keep (mJ s'.env) }
   | some t=>We (K.know t true) ops.toList { s with env:=mJ s.env } (fun s'=>k .normal { s' with env:=BA K.un.keep (mJ s'.env) })∨
    We (K.know t false) ops.toList { s with env:=mJ s.env } (fun s'=>k .normal { s' with env:=BA K.un.keep (mJ s'.env) })
  | false=>rL K ops.toList ops.toList s fun s'=>k .normal { s' with env:=BA K.un.keep (mJ s'.env) }
 | n+1, .seq a b,s,k=>run n a s fun e s'=>match e with
  | .normal=>run n b s' k
  | e=>k e s'
 | n+1, .cond c a b,s,k=>match rdS s.env [] c with
  | some (.tt true)=>run n a s k
  | some (.tt false)=>run n b s k
  | some (.bool z)=>(z=true→run n a s k)∧(z=false→run n b s k)
  | _=>False
 | n+1, .block id c,s,k=>run n c s fun e s'=>match e with
  | .exit id'=>if id' == id then k .normal s' else k (.exit id') s'
  | e=>k e s'
 | _+1, .exit id,s,k=>k (.exit id) s
 | _+1, .ret,s,k=>k .ret s
 | n+1, .loop c,s,k=>match K.un.un with
  | true=>run n c s fun e s'=>match e with
   | .normal=>run n (.loop c) s' k
   | e=>k e s'
  | false=>K.loop c s k
 | _+1,_,_,_=>False
def QG (s:St):ResultVar→Option CV
 | .tmp t=>rdC s.env [] (.tmp t)
 | .cell t ty=>match rdS s.env [] (.tmp t) with
  | some p=>match zL K s.heap ty p with
   | some ⟨[], .c v,[],[]⟩=>some v
   | _=>none
  | none=>none
def Mr (s:St):List ResultVar→Option (List CV)
 | []=>some []
 | r :: l=>match QG K s r,Mr s l with
  | some v,some m=>some (v :: m)
  | _,_=>none
def La (s:St) (l:List ResultVar):Option XV:=match Mr K s l with
 | some [v]=>some (.c v)
 | some m=>some (.t m)
 | none=>none
def aiH:Nat→List CV→List (Nat×Ent)
 | _,[]=>[]
 | n,v :: r=>(n,⟨[], .c v⟩) :: aiH (n+1) r
def G5 (fn:Func) (args:List CV) (heap:bT) (nid:Nat) (k:XV→bT→Prop):Prop:=
 match fn.body with
 | some c=>run { K with N:=fn.ntmps } 1000 c ⟨aiH 0 args,heap,nid⟩ fun e s=>match e with
  | .normal=>match La { K with N:=fn.ntmps } s fn.results.toList with
   | some v=>k v s.heap
   | none=>False
  | .ret=>match La { K with N:=fn.ntmps } s fn.results.toList with
   | some v=>k v s.heap
   | none=>False
  | _=>False
 | none=>False
end
theorem Kb (n k:Nat):n % 2 ^ k < 2 ^ k:=Nat.mod_lt _ (Nat.two_pow_pos k)
def Dg.zero:Dg:=⟨0,Nat.two_pow_pos 1024⟩
def Dg.set (d:Dg) (i v:Nat):Dg:=⟨(d.n - d.dig i*2 ^ (32*i)+v*2 ^ (32*i)) % 2 ^ 1024,Kb _ 1024⟩
def iC:Dg→Nat→Nat→List Int→Dg
 | d,_,_,[]=>d
 | d,i,hi,v :: r=>if i < hi then iC (d.set i v.toNat) (i+1) hi r else d
def aA:Alg where
 bin:=aD
 cmp:=aP
 wrap:=IntKind.wrap
 not:=(!·)
 and:=(· && ·)
 imp a b:= !a||b
 ite c x y:=if c then x else y
 beq:=(· == ·)
 seq:=(· == ·)
 dig d i:=(d.dig i.toNat:Nat)
 setD d i v:=d.set i.toNat v.toNat
 eqD x y:=decide (x=y)
 eqW x y:=decide (x=y)
 eqR x y:=decide (x=y)
 eqP x y:=decide (x=y)
 zD:=Dg.zero
 len l:=(l.length:Int)
 get l i d:=l.getD i.toNat d
 set l i x:=l.set i.toNat x
 app l m:=l++m
 sub l i j:=(l.take j.toNat).drop i.toNat
 slen s:=(s.size:Int)
 sb s i:=match s[i.toNat]? with
  | some b=>(b.toNat:Int)
  | none=>0
 iadd a b:=a+b
 isub a b:=a - b
 mn a b:=if b < a then b else a
 mx a b:=if b > a then b else a
 digs d lo hi:=(List.range (hi.toNat - lo.toNat)).map fun i=>((d.dig (lo.toNat+i):Nat):Int)
 dig2 d e i:=if i < 32 then((d.dig i.toNat:Nat):Int) else((e.dig (i.toNat - 32):Nat):Int)
 setLo d i v:=if i < 32 then d.set i.toNat v.toNat else d
 setHi e i v:=if i < 32 then e else e.set (i.toNat - 32) v.toNat
 copyD d lo hi l:=iC d lo.toNat hi.toNat l
 all32 l:=l.all fun v=>decide (0≤v)&&decide (v < 4294967296)
 rep n x:=List.replicate n.toNat x
 ssub s lo hi:=s.extract lo.toNat hi.toNat
 scat a b:=a++b
 ofB l:=l.foldl (fun r n=>r.push (UInt8.ofNat n.toNat)) ByteArray.empty
def cF:Value→Nat→Value
 | .pointer (some a),n=> .pointer (some (a.add n))
 | v,_=>v
abbrev Rho:=Nat→Value
def vC:Rho:=fun _=> .pointer none
def Sc.den (ρ:Rho):Sc→Value
 | .lit k n=> .int k n
 | .int k n=> .int k n
 | .tt b=> .bool b
 | .bool b=> .bool b
 | .str s=> .string s
 | .hp id off=>cF (ρ id) off
 | .pe id base esz i off=>cF (ρ id) (base+i.toNat*esz+off)
 | .hs id=>ρ id
 | .ve id esz i off=>match ρ id with
  | .slice (some a) _ _=> .pointer (some (a.add (i.toNat*esz+off)))
  | v=>v
 | .hw id esz lo hi=>match ρ id with
  | .slice a _ cap=> .slice (if cap=lo.toNat then a else a.map (·.add (lo.toNat*esz))) (hi.toNat - lo.toNat) (cap - lo.toNat)
  | v=>v
 | .ha id off esz lo hi cap=>match ρ id with
  | .pointer (some a)=> .slice (some (if cap=lo.toNat then a.add off else a.add (off+lo.toNat*esz))) (hi.toNat - lo.toNat) (cap - lo.toNat)
  | v=>v
 | .hm id=>ρ id
 | .nilp=> .pointer none
 | .nils=> .slice none 0 0
 | .nilm=> .map none
 | .nilf=> .nilFunc
 | .fn f caps=> .func (.func f) #[] (caps.map fun c=>cF (ρ c.1) c.2).toArray
 | .un=>undef
def Dg.cells (d:Dg):List Value:=(List.range 32).map fun i=> .int .u32 (d.dig i:Nat)
def Wd.cells (w:Wd):List Value:= .bool w.neg :: w.d.cells
def Rt.cells (r:Rt):List Value:=r.N.cells++r.D.cells
def Pt.cells (p:Pt):List Value:=p.X.cells++p.Y.cells
def At.cells (ρ:Rho):At→List Value
 | .s x=>[x.den ρ]
 | .D d=>d.cells
 | .W w=>w.cells
 | .R r=>r.cells
 | .P p=>p.cells
def aI (ρ:Rho):List At→List Value
 | []=>[]
 | a :: r=>a.cells ρ++aI ρ r
def CV.den (ρ:Rho):CV→Value
 | .s x=>x.den ρ
 | .g l=> .agg (aI ρ l).toArray
def XV.den (ρ:Rho):XV→Value
 | .c v=>v.den ρ
 | .t l=> .tuple (l.map (CV.den ρ)).toArray
@[simp] theorem Dg.cells_length (d:Dg):d.cells.length=32:=by simp[Dg.cells]
@[simp] theorem Wd.cells_length (w:Wd):w.cells.length=33:=by simp[Wd.cells]
@[simp] theorem Rt.cells_length (r:Rt):r.cells.length=66:=by simp[Rt.cells]
@[simp] theorem Pt.cells_length (p:Pt):p.cells.length=132:=by simp[Pt.cells]
@[simp] theorem At.cells_length (ρ:Rho) (a:At):(a.cells ρ).length=a.size:=by cases a <;> simp[At.cells,At.size]
@[simp] theorem flats_length (ρ:Rho) (l:List At):(aI ρ l).length=bO l:=by
 induction l with
 | nil=>rfl
 | cons a r ih=>simp[aI,bO,ih]
theorem dQ (ρ:Rho) (l m:List At):aI ρ (l++m)=aI ρ l++aI ρ m:=by
 induction l with
 | nil=>rfl
 | cons a r ih=>simp[aI,ih]
theorem At.expand_cells (ρ:Rho) {a:At} {l:List At} (h:a.expand=some l):aI ρ l=a.cells ρ:=by
 cases a <;> simp[At.expand] at h <;> subst h <;> simp[aI,At.cells,Wd.cells,Rt.cells,Pt.cells,Sc.den]
theorem At.expand_sizes {a:At} {l:List At} (h:a.expand=some l):bO l=a.size:=by
 cases a <;> simp[At.expand] at h <;> subst h <;> simp[bO,At.size]
theorem oW (l m:List At):bO (l++m)=bO l+bO m:=by
 induction l with
 | nil=>simp[bO]
 | cons a r ih=>simp[bO,ih,Nat.add_assoc]
theorem fX (ρ:Rho): ∀ (fuel n:Nat) (l m:List At),j9 fuel n l=some m→n≤bO l∧aI ρ m=(aI ρ l).drop n:=by
 intro fuel
 induction fuel with
 | zero=>
  intro n l m h
  cases n with
  | zero=>simp[j9] at h;subst h;simp
  | succ n=>simp[j9] at h
 | succ fuel ih=>
  intro n l m h
  cases n with
  | zero=>simp[j9] at h;subst h;simp
  | succ n=>
   cases l with
   | nil=>simp[j9] at h
   | cons a r=>
    simp only[j9] at h
    split at h
    ·rename_i hle
     obtain⟨h1,h2⟩:=ih _ _ _ h
     refine⟨by simp[bO];omega,?_⟩
     rw[h2]
     simp only[aI]
     have e:(a.cells ρ).drop (n+1)=[]:=List.drop_eq_nil_of_le (by simp;omega)
     rw[List.drop_append,e]
     simp
    ·rename_i hle
     split at h
     ·rename_i ex hex
      obtain⟨h1,h2⟩:=ih _ _ _ h
      rw[oW,At.expand_sizes hex] at h1
      refine⟨by simp[bO];omega,?_⟩
      rw[h2,dQ,At.expand_cells ρ hex];rfl
     ·simp at h
theorem mD (ρ:Rho): ∀ (fuel n:Nat) (l m:List At),mC fuel n l=some m→n≤bO l∧aI ρ m=(aI ρ l).take n:=by
 intro fuel
 induction fuel with
 | zero=>
  intro n l m h
  cases n with
  | zero=>simp[mC] at h;subst h;simp[aI]
  | succ n=>simp[mC] at h
 | succ fuel ih=>
  intro n l m h
  cases n with
  | zero=>simp[mC] at h;subst h;simp[aI]
  | succ n=>
   cases l with
   | nil=>simp[mC] at h
   | cons a r=>
    simp only[mC] at h
    split at h
    ·rename_i hle
     split at h
     ·rename_i l' hl'
      obtain⟨h1,h2⟩:=ih _ _ _ hl'
      simp only[Option.some.injEq] at h
      subst h
      refine⟨by simp[bO];omega,?_⟩
      simp only[aI]
      have e:(a.cells ρ).take (n+1)=a.cells ρ:=List.take_of_length_le (by simp;omega)
      rw[h2,List.take_append,e]
      simp
     ·simp at h
    ·rename_i hle
     split at h
     ·rename_i ex hex
      obtain⟨h1,h2⟩:=ih _ _ _ h
      rw[oW,At.expand_sizes hex] at h1
      refine⟨by simp[bO];omega,?_⟩
      rw[h2,dQ,At.expand_cells ρ hex];rfl
     ·simp at h
theorem eI (ρ:Rho) {l m:List At} {off n:Nat} (h:Ms l off n=some m) :
  off+n≤bO l∧aI ρ m=((aI ρ l).drop off).take n:=by
 unfold Ms at h
 split at h
 ·rename_i r hr
  obtain⟨h1,h2⟩:=fX ρ _ _ _ _ hr
  obtain⟨h3,h4⟩:=mD ρ _ _ _ _ h
  have:bO r=bO l - off:=by rw[← flats_length ρ r,h2];simp
  exact⟨by omega,by rw[h4,h2]⟩
 ·simp at h
theorem n7 (ρ:Rho) (f:At→List At→List At) (hf: ∀ a r,aI ρ (f a r)=aI ρ (a :: r)) (l:List At):aI ρ (HO f l)=aI ρ l:=by
 induction l with
 | nil=>rfl
 | cons a r ih=>simp only[HO];rw[hf];simp[aI,ih]
theorem eF (ρ:Rho) (l:List At):aI ρ (merge l)=aI ρ l:=by
 unfold merge
 rw[n7,n7,n7]
 ·intro a r;unfold FY;split <;> simp[aI,At.cells,Wd.cells,Sc.den]
 ·intro a r;unfold mWs;split <;> simp[aI,At.cells,Rt.cells]
 ·intro a r;unfold mRs;split <;> simp[aI,At.cells,Pt.cells]
theorem cR (ρ:Rho) {l m new:List At} {off:Nat} (h:Ff l off new=some m) :
  off+bO new≤bO l∧aI ρ m=(aI ρ l).take off++(aI ρ new++(aI ρ l).drop (off+bO new)):=by
 unfold Ff at h
 split at h
 ·rename_i a b ha hb
  obtain⟨h1,h2⟩:=mD ρ _ _ _ _ ha
  obtain⟨h3,h4⟩:=fX ρ _ _ _ _ hb
  simp only[Option.some.injEq] at h
  subst h
  exact⟨h3,by rw[eF,dQ,dQ,h2,h4]⟩
 ·simp at h
theorem lI {l m new:List At} {off:Nat} (h:Ff l off new=some m):bO m=bO l:=by
 obtain⟨h1,h2⟩:=cR (fun _=>undef) h
 have:=congrArg List.length h2
 simp at this
 omega
abbrev Ids:=Nat→Prop
def bZ (n:Ids) (ρ ρ':Rho):Prop:= ∀ i,n i→ρ' i=ρ i
theorem bZ.refl (n:Ids) (ρ:Rho):bZ n ρ ρ:=fun _ _=>rfl
theorem bZ.trans {n m:Ids} {a b c:Rho} (h:bZ n a b) (h':bZ m b c) (hm: ∀ i,n i→m i):bZ n a c:=
 fun i hi=>(h' i (hm i hi)).trans (h i hi)
theorem bZ.mono {n m:Ids} {a b:Rho} (h:bZ m a b) (hm: ∀ i,n i→m i):bZ n a b:=fun i hi=>h i (hm i hi)
theorem bZ.symm {n:Ids} {a b:Rho} (h:bZ n a b):bZ n b a:=fun i hi=>(h i hi).symm
def kZ (n:Ids) (m k:Nat):Ids:=fun i=>n i∨(m≤i∧i < m+k)
def iK (n:Ids) (ρ:Rho) (v:CV):Prop:= ∀ ρ',bZ n ρ ρ'→v.den ρ'=v.den ρ
def kY (n:Ids) (ρ:Rho) (l:List At):Prop:= ∀ ρ',bZ n ρ ρ'→aI ρ' l=aI ρ l
def nT (n:Ids) (ρ:Rho) (v:XV):Prop:= ∀ ρ',bZ n ρ ρ'→v.den ρ'=v.den ρ
theorem nT.mono {n m:Ids} {ρ:Rho} {v:XV} (h:nT n ρ v) (hm: ∀ i,n i→m i):nT m ρ v:=fun _ ha=>h _ (ha.mono hm)
theorem nT.move {n:Ids} {ρ ρ':Rho} {v:XV} (h:nT n ρ v) (ha:bZ n ρ ρ'):nT n ρ' v:=
 fun ρ'' hb=>(h ρ'' (ha.trans hb fun _ h=>h)).trans (h ρ' ha).symm
theorem kY.mono {n m:Ids} {ρ:Rho} {v:List At} (h:kY n ρ v) (hm: ∀ i,n i→m i):kY m ρ v:=fun _ ha=>h _ (ha.mono hm)
theorem kY.move {n:Ids} {ρ ρ':Rho} {v:List At} (h:kY n ρ v) (ha:bZ n ρ ρ'):kY n ρ' v:=
 fun ρ'' hb=>(h ρ'' (ha.trans hb fun _ h=>h)).trans (h ρ' ha).symm
theorem iK.mono {n m:Ids} {ρ:Rho} {v:CV} (h:iK n ρ v) (hm: ∀ i,n i→m i):iK m ρ v:=fun _ ha=>h _ (ha.mono hm)
theorem iK.move {n:Ids} {ρ ρ':Rho} {v:CV} (h:iK n ρ v) (ha:bZ n ρ ρ'):iK n ρ' v:=
 fun ρ'' hb=>(h ρ'' (ha.trans hb fun _ h=>h)).trans (h ρ' ha).symm
def bK:Value→Option Nat
 | .pointer (some a)=>some a.block
 | .slice (some a) _ _=>some a.block
 | .map (some r)=>some r
 | _=>none
def RK.flat (k:RK) (l:List k.ty):List Value:=l.flatMap fun x=>aI (fun _=>undef) (k.at x)
theorem AK.at_cells (k:AK) (x:k.ty) (ρ ρ':Rho):(k.at1 x).cells ρ=(k.at1 x).cells ρ':=by
 cases k <;> simp[AK.at1,At.cells,Sc.den]
theorem AK.at_size (k:AK) (x:k.ty):(k.at1 x).size=k.sz:=by
 cases k <;> simp[AK.at1,At.size,AK.sz]
theorem rH (ρ ρ':Rho): ∀ (l:List AK) (x:r6 l),aI ρ (ad1 l x)=aI ρ' (ad1 l x)
 | [],_=>rfl
 | k :: r,x=>by simp only[ad1,aI];rw[k.at_cells x.1 ρ ρ',rH ρ ρ' r x.2]
theorem rI: ∀ (l:List AK) (x:r6 l),bO (ad1 l x)=G4 l
 | [],_=>rfl
 | k :: r,x=>by simp only[ad1,bO,G4];rw[k.at_size,rI r x.2]
theorem RK.at_flats (k:RK) (x:k.ty) (ρ ρ':Rho):aI ρ (k.at x)=aI ρ' (k.at x):=by
 cases k
 case row l=>exact rH ρ ρ' l x
 all_goals simp[RK.at,aI,At.cells,Sc.den]
theorem RK.at_sizes (k:RK) (x:k.ty):bO (k.at x)=k.esz:=by
 cases k
 case row l=>exact rI l x
 all_goals simp[RK.at,bO,At.size,RK.esz]
def Blk.ok (w:World) (v:Value) (ρ:Rho):Blk→Prop
 | .fix own l=> ∃ b o,v= .pointer (some ⟨b,o,none⟩)∧b < w.heap.size∧w.rangeAt b o (aI ρ l)∧(own=true→w.there b o (bO l))
 | .vec own k l=> ∃ base cap,v= .slice base l.length cap∧l.length≤cap∧
   match base with
   | none=>l=[]∧cap=0
   | some a=> ∃ b o,a=⟨b,o,none⟩∧b < w.heap.size∧w.rangeAt b o (k.flat l)∧(own=true→w.there b o (k.esz*cap))
 | .gone=> ∀ x,bK v=some x→x < w.heap.size
def Blk.stb (n:Ids) (ρ:Rho):Blk→Prop
 | .fix _ l=>kY n ρ l
 | .vec _ _ _=>True
 | .gone=>True
structure jH where
 wr:Nat→Prop
 ids:Ids
 rho:Rho
 org:Nat→Prop
structure Low (B:Nat) (w w':World):Prop where
 os:w'.os=w.os
 tape:w'.tape=w.tape
 output:w'.output=w.output
 size:w.heap.size≤w'.heap.size
 block: ∀ k,k < B→w'.heap[k]? =w.heap[k]?
 drawn:w.drawn≤w'.drawn
theorem Low.refl (B:Nat) (w:World):Low B w w:=⟨rfl,rfl,rfl,Nat.le_refl _,fun _ _=>rfl,Nat.le_refl _⟩
theorem Low.trans {B:Nat} {a b c:World} (h:Low B a b) (k:Low B b c):Low B a c:=
 ⟨k.os.trans h.os,k.tape.trans h.tape,k.output.trans h.output,Nat.le_trans h.size k.size,fun i hi=>(k.block i hi).trans (h.block i hi),Nat.le_trans h.drawn k.drawn⟩
theorem Low.drew {B:Nat} {a w:World} (h:Low B a w):Low B a w.drew:=⟨h.os,h.tape,h.output,h.size,h.block,Nat.le_succ_of_le h.drawn⟩
theorem Low.alloc {B:Nat} {a w:World} (h:Low B a w) (hB:B≤w.heap.size) (o:Obj):Low B a (w.alloc o):=
 h.trans ⟨rfl,rfl,rfl,by simp,fun k hk=>RowKit.Below.heap_alloc _ _ _ (by omega),Nat.le_refl _⟩
theorem Low.toB {B:Nat} {w w':World} (h:Low B w w'):RowKit.Below B w w':=⟨h.os,h.tape,h.output,h.size,h.block⟩
structure HS (w0:World) (Wr:jH) (ρ:Rho) (h:bT) (n:Ids) (w:World):Prop where
 one: ∀ i,(ρ i).oneCell'=true
 ok: ∀ id b,aN h id=some b→n id∧b.ok w (ρ id) ρ∧b.stb n ρ
 sep: ∀ i b j c,aN h i=some b→aN h j=some c→i≠j→b.own=true→c.live=true→ ∀ x,bK (ρ i)=some x→bK (ρ j)≠some x
 wr: ∀ i b x,aN h i=some b→b.own=true→bK (ρ i)=some x→w0.heap.size≤x∨Wr.wr x
 org: ∀ i b x,aN h i=some b→b.live=true→bK (ρ i)=some x→w0.heap.size≤x∨Wr.wr x∨Wr.org x
 frame: ∀ x,x < w0.heap.size→ ¬ Wr.wr x→w.heap[x]? =w0.heap[x]?
 os:w.os=w0.os
 tape:w.tape=w0.tape
 output:w.output=w0.output
 drawn:w0.drawn≤w.drawn
 size:w0.heap.size≤w.heap.size
 ag:bZ Wr.ids Wr.rho ρ
 inn: ∀ i,Wr.ids i→n i
section mem
variable {w w':World} {b o:Nat}
theorem mI (h:w'.heap[b]? =w.heap[b]?) (p:Addr) (hp:p.block=b):w'.cell? p=w.cell? p:=by
 subst hp;simp only[World.cell?,h]
theorem qK (h:w'.heap[b]? =w.heap[b]?) (p:Addr) (hp:p.block=b):w'.frozen? p=w.frozen? p:=by
 subst hp;simp only[World.frozen?,h]
theorem j5 {cs:List Value} (h:w'.heap[b]? =w.heap[b]?) (hc:w.rangeAt b o cs):w'.rangeAt b o cs:=
 fun j v hv=>by rw[mI h ⟨b,o+j,none⟩ rfl];exact hc j v hv
theorem lV {n:Nat} (h:w'.heap[b]? =w.heap[b]?) (hc:w.there b o n):w'.there b o n:=
 fun j hj=>by rw[mI h ⟨b,o+j,none⟩ rfl,qK h ⟨b,o+j,none⟩ rfl];exact hc j hj
theorem Blk.ok_of_block {ρ:Rho} {v:Value} {k:Blk} (hsz:w.heap.size≤w'.heap.size) (h: ∀ x,bK v=some x→w'.heap[x]? =w.heap[x]?) (hk:k.ok w v ρ):k.ok w' v ρ:=by
 cases k with
 | fix own l=>
  obtain⟨b,o,rfl,hb,hr,ht⟩:=hk
  have he:=h b rfl
  exact⟨b,o,rfl,by omega,j5 he hr,fun e=>lV he (ht e)⟩
 | vec own k l=>
  obtain⟨base,cap,rfl,hc,hm⟩:=hk
  refine⟨base,cap,rfl,hc,?_⟩
  cases base with
  | none=>exact hm
  | some a=>
   obtain⟨b,o,rfl,hb,hr,ht⟩:=hm
   have he:=h b rfl
   exact⟨b,o,rfl,by omega,j5 he hr,fun e=>lV he (ht e)⟩
 | gone=>exact fun x hx=>Nat.lt_of_lt_of_le (hk x hx) hsz
theorem Blk.ok_move {ρ ρ':Rho} {v:Value} {k:Blk} {n:Ids} (hs:k.stb n ρ) (ha:bZ n ρ ρ') (hk:k.ok w v ρ):k.ok w v ρ':=by
 cases k with
 | fix own l=>
  obtain⟨b,o,rfl,hb,hr,ht⟩:=hk
  have e:aI ρ' l=aI ρ l:=hs ρ' ha
  exact⟨b,o,rfl,hb,by rw[e];exact hr,ht⟩
 | vec own k l=>exact hk
 | gone=>exact hk
theorem Blk.stb_move {ρ ρ':Rho} {k:Blk} {n m:Ids} (hs:k.stb n ρ) (ha:bZ n ρ ρ') (hm: ∀ i,n i→m i):k.stb m ρ':=by
 cases k with
 | fix own l=>exact kY.mono (kY.move hs ha) hm
 | vec own k l=>trivial
 | gone=>trivial
theorem Blk.block {ρ:Rho} {v:Value} {k:Blk} {x:Nat} (hk:k.ok w v ρ) (hx:bK v=some x):x < w.heap.size:=by
 cases k with
 | fix own l=>obtain⟨b,o,rfl,hb,_⟩:=hk;simp[bK] at hx;omega
 | vec own k l=>
  obtain⟨base,cap,rfl,hc,hm⟩:=hk
  cases base with
  | none=>simp[bK] at hx
  | some a=>obtain⟨b,o,rfl,hb,_⟩:=hm;simp[bK] at hx;omega
 | gone=>exact hk x hx
end mem
theorem cO {h:bT} {i j:Nat} {b:Blk} :aN (Ei h i b) j=if j=i then(aN h i).map (fun _=>b) else aN h j:=by
 induction h with
 | nil=>simp[Ei,aN]
 | cons x r ih=>
  obtain⟨k,c⟩:=x
  simp only[Ei]
  by_cases hk:k=i
  ·subst hk
   simp only[beq_self_eq_true,if_true,aN]
   by_cases hj:j=k
   ·subst hj;simp
   ·have:(k == j)=false:=by simp;exact fun e=>hj e.symm
    simp[this,hj]
  ·have hk':(k == i)=false:=by simp[hk]
   simp only[hk',Bool.false_eq_true,if_false,aN]
   by_cases hj:j=k
   ·subst hj;simp[hk]
   ·have:(k == j)=false:=by simp;exact fun e=>hj e.symm
    simp[this,ih]
def ck:Value→Option CK
 | .int k _=>some (.int k)
 | .bool _=>some .bool
 | _=>none
def mR (P:Program):List Field→Nat→Option Nat
 | [],o=>some o
 | f :: r,o=>if f.offset=o then mR P r (o+P.cellsOf f.type) else none
def VF (P:Program):Nat→Nat→List (Option CK)→Bool
 | 0,_,_=>false
 | d+1,t,ks=>match P.underlying t with
  | some .bool=>ks == [some .bool]
  | some (.int _)=>match ks with
   | [some (.int _)]=>true
   | _=>false
  | some (.struct fs)=> !P.stoodInHeld t&&mR P fs.toList 0 == some ks.length&&
    fs.toList.all fun f=>f.name != "_" &&(P.info? f.type).isSome&&VF P d f.type ((ks.drop f.offset).take (P.cellsOf f.type))
  | some (.array n e)=>(P.info? e).isSome&&ks.length == n*P.cellsOf e&&(List.range n).all fun i=>VF P d e ((ks.drop (i*P.cellsOf e)).take (P.cellsOf e))
  | _=>false
theorem W1 {l:List (Nat×Nat)} (h:(l.all fun p=>p.2 != 0)=true): ∀ o z,(o,z)∈l→z≠0:=fun o z hm=>by
 have:=List.all_eq_true.1 h _ hm
 simpa using this
structure fP (P:Program) (t:Nat) (i:TI):Prop where
 agg:(P.underlying t).map (·.isRow)=some i.agg:=by kernel_rfl
 size:(P.info? t).map (·.size)=some i.size:=by kernel_rfl
 zero:(P.info? t).bind (·.zero)=some (i.zero.den vC):=by kernel_rfl
 zst: ∀ ρ,aI ρ i.zero.atoms=aI vC i.zero.atoms:=by exact fun _=>rfl
 zsize:bO i.zero.atoms=i.size:=by kernel_rfl
 zagg:i.agg=true→ ∃ l,i.zero= .g l:=by first | exact fun _=>⟨_,rfl⟩ | (intro h;cases h;done)
 fields:i.fields=[]∨ ∃ fs,P.underlying t=some (.struct fs)∧(fs.toList.mapM fun f=>(P.info? f.type).map fun i=>(f.offset,i.size))=some i.fields:=by exact .inl rfl
 fsize: ∀ o z,(o,z)∈i.fields→z≠0:=by exact W1 rfl
 arr: ∀ n e z,i.arr=some (n,e,z)→P.underlying t=some (.array n e)∧(P.info? e).map (·.size)=some z:=by first | (intro _ _ _ h;cases h;done) | (intro _ _ _ h;cases h;exact⟨by kernel_rfl,by kernel_rfl⟩)
 elem: ∀ e z k,i.elem=some (e,z,k)→P.underlying t=some (.slice e)∧(P.info? e).map (·.size)=some z∧z=k.esz∧((P.info? e).bind (·.zero)).map (·.cells.toList)=some (aI vC (k.at (k.dflt aA)))∧((P.info? e).map fun i=>decide (i.bytes≤65536))=some true∧0 < k.esz∧k.esz≤1000:=by first | (intro _ _ _ h;cases h;done) | (intro _ _ _ h;cases h;exact⟨by kernel_rfl,by kernel_rfl,rfl,by kernel_rfl,by kernel_rfl,by decide,by decide⟩)
 ints: ∀ e z k,i.elem=some (e,z, .int k)→P.underlying e=some (.int k):=by first | (intro _ _ _ h;cases h;done) | (intro _ _ _ h;cases h;kernel_rfl)
 int: ∀ k,i.sc=some (.int k)→P.underlying t=some (.int k):=by first | (intro _ h;cases h;done) | (intro _ h;cases h;kernel_rfl)
 bool:i.sc=some .bool→P.underlying t=some .bool:=by first | (intro h;cases h;done) | (intro;kernel_rfl)
 str:i.sc=some .str→P.underlying t=some .string:=by first | (intro h;cases h;done) | (intro;kernel_rfl)
 eq:i.eq=true→VF P 20 t ((aI vC i.zero.atoms).map ck)=true∧P.eqGuardType P.depth t=false:=by first | (intro h;cases h;done) | exact fun _=>⟨by kernel_rfl,by kernel_rfl⟩
def TOK (P:Program) (T:Nat→Option TI):Prop:= ∀ t i,T t=some i→fP P t i
section ops
variable {P:Program} {K:Cx} {w0:World} {Wr:jH} {ρ:Rho} {h:bT} {n:Ids} {w:World}
theorem rM {t:Nat} {i:TI} (ht:fP P t i):(isAgg t).run P w= .ok i.agg w:=by
 have:=ht.agg
 cases hu:P.underlying t with
 | none=>simp[hu] at this
 | some d=>
  simp[hu] at this
  unfold isAgg
  rw[Sem.run_bind,run_underlying hu w]
  cases d <;> simp_all
theorem cG {t:Nat} {m:Nat} (ht:(P.info? t).map (·.size)=some m):(sizeOf t).run P w= .ok m w:=by
 cases hq:P.info? t with
 | none=>simp[hq] at ht
 | some i=>simp[hq] at ht;subst ht;simp[sizeOf,typeInfo,hq]
theorem yH {t:Nat} {i:TI} (ht:fP P t i) (ha:i.agg=true) {b o:Nat} {cs:List Value} (hc:w.rangeAt b o cs) (hl:cs.length=i.size) :
  (loadVar t ⟨b,o,none⟩).run P w= .ok (.agg cs.toArray) w:=by
 have h1:=ht.agg
 cases hu:P.underlying t with
 | none=>simp[hu] at h1
 | some d=>
  simp[hu,ha] at h1
  exact run_loadVar_mid w b o t cs d hc hu h1 (by rw[hl];exact ht.size)
theorem jP {t:Nat} {i:TI} (ht:fP P t i) (ha:i.agg=false) {a:Addr} {v:Value} (hc:w.cell? a=some v) :
  (loadVar t a).run P w= .ok v w:=by
 unfold loadVar
 rw[Sem.run_bind,rM ht]
 simp[ha,hc]
theorem oV {t:Nat} {i:TI} (ht:fP P t i) {b o:Nat} {l:List At} {v:CV} (hc:w.rangeAt b o (aI ρ l)) (hl:bO l=i.size)
  (hv:AN i.agg l=some v):(Instr.loadAt t (.pointer (some ⟨b,o,none⟩))).run P w= .ok (v.den ρ) w:=by
 unfold AN at hv
 simp only[Instr.loadAt,Instr.sureAddr,Sem.run_bind,Sem.run_pure,Result.andThen_ok]
 split at hv
 ·rename_i ha
  simp only[Option.some.injEq] at hv
  subst hv
  rw[yH ht ha hc (by simp[hl])]
  simp[CV.den,eF]
 ·rename_i ha
  split at hv
  ·rename_i x
   simp only[Option.some.injEq] at hv
   subst hv
   have:=hc 0 (x.den ρ) (by simp[aI,At.cells])
   rw[Nat.add_zero] at this
   rw[jP ht (by simpa using ha) this]
   rfl
  ·simp at hv
theorem gV {b o:Nat} {cs:List Value} (off m:Nat) (hc:w.rangeAt b o cs):w.rangeAt b (o+off) ((cs.drop off).take m):=by
 intro j v hv
 have:=hc (off+j) v (by
  rw[List.getElem?_take] at hv
  split at hv
  ·simpa using hv
  ·simp at hv)
 rw[← Nat.add_assoc] at this
 exact this
theorem sL {y:Wd} : ∀ {off:Nat} {x:Sc},off < 33→M5 aA y off=some x→ ∃ v,x= .int .u32 v∧(y.cells)[off]? =some (.int .u32 v):=by
 intro off x hlt h
 cases off with
 | zero=>simp[M5] at h
 | succ o=>
  simp only[M5,Option.some.injEq] at h
  subst h
  refine⟨_,rfl,?_⟩
  have:o < 32:=by omega
  simp[Wd.cells,Dg.cells,aA,this]
theorem xI {l:List At} : ∀ {off:Nat} {x:Sc},Cu aA l off=some x→ ∃ v,x= .int .u32 v∧(aI ρ l)[off]? =some (.int .u32 v):=by
 induction l with
 | nil=>intro off x h;simp[Cu] at h
 | cons a r ih=>
  intro off x h
  simp only[Cu] at h
  split at h
  ·rename_i hlt
   have hf:(aI ρ (a :: r))[off]? =(a.cells ρ)[off]? :=by
    simp only[aI];rw[List.getElem?_append_left (by simpa using hlt)]
   rw[hf]
   cases a with
   | D d=>
    simp only[Option.some.injEq] at h
    subst h
    simp only[At.size] at hlt
    refine⟨_,rfl,?_⟩
    simp[At.cells,Dg.cells,aA,hlt]
   | W x=>
    simp only[At.size] at hlt
    cases off with
    | zero=>simp at h
    | succ o=>
     simp only[Option.some.injEq] at h
     subst h
     refine⟨_,rfl,?_⟩
     have:o < 32:=by omega
     simp[At.cells,Wd.cells,Dg.cells,aA,this]
   | s x=>simp at h
   | R y=>
    simp only[At.size] at hlt
    simp only at h
    show ∃ v,x= .int .u32 v∧(y.N.cells++y.D.cells)[off]? =some (.int .u32 v)
    split at h
    ·rename_i h33
     rw[List.getElem?_append_left (by simpa using h33)]
     exact sL h33 h
    ·rename_i h33
     rw[List.getElem?_append_right (by simp;omega)]
     obtain⟨v,e1,e2⟩:=sL (by omega) h
     exact⟨v,e1,by simpa using e2⟩
   | P x=>simp at h
  ·rename_i hge
   obtain⟨v,hx,hv⟩:=ih h
   refine⟨v,hx,?_⟩
   simp only[aI]
   rw[List.getElem?_append_right (by simp;omega)]
   simpa using hv
theorem j7 {l:List At} : ∀ {base:Nat} {d:Dg},atD l base=some d→base+32≤bO l∧((aI ρ l).drop base).take 32=d.cells:=by
 induction l with
 | nil=>intro base d h;simp[atD] at h
 | cons a r ih=>
  intro base d h
  unfold atD at h
  split at h
  ·split at h
   ·simp only[Option.some.injEq] at h
    subst h
    simp[bO,At.size,aI,At.cells]
   ·simp at h
  ·split at h
   ·simp only[Option.some.injEq] at h
    subst h
    simp[bO,At.size,aI,At.cells,Wd.cells]
   ·simp only[Option.some.injEq] at h
    subst h
    simp[bO,At.size,aI,At.cells,Wd.cells,Rt.cells]
    omega
   ·split at h
    ·rename_i hs
     obtain⟨h1,h2⟩:=ih h
     simp at hs
     refine⟨by simp[bO];omega,?_⟩
     simp only[aI]
     rw[List.drop_append,List.drop_eq_nil_of_le (by simp[hs])]
     simpa [hs] using h2
    ·simp at h
  ·rename_i o
   split at h
   ·rename_i hs
    obtain⟨h1,h2⟩:=ih h
    refine⟨by simp[bO];omega,?_⟩
    simp only[aI]
    rw[List.drop_append,List.drop_eq_nil_of_le (by simp;omega)]
    simpa using h2
   ·split at h
    ·split at h
     ·rename_i ho
      simp at ho
      simp only[Option.some.injEq] at h
      subst h
      subst ho
      have e: ∀ x:Rt,(x.cells.drop 34)=x.D.d.cells:=fun x=>by
       simp[Rt.cells,Wd.cells,List.drop_append]
      simp[bO,At.size,aI,At.cells,List.drop_append,e]
     ·simp at h
    ·simp at h
theorem vL {l:List At} {base:Nat} {d e:Dg} (h:atE l base=some (d,e)):base+64≤bO l∧((aI ρ l).drop base).take 64=d.cells++e.cells:=by
 unfold atE at h
 split at h
 ·rename_i a b r hd
  simp only[Option.some.injEq,Prod.mk.injEq] at h
  obtain⟨rfl,rfl⟩:=h
  obtain⟨h1,h2⟩:=fX ρ _ _ _ _ hd
  have h3:bO l - base=64+bO r:=by
   have:=congrArg List.length h2
   simp[aI,At.cells] at this
   omega
  refine⟨by omega,?_⟩
  rw[← h2]
  simp only[aI,At.cells]
  rw[← List.append_assoc,List.take_append_of_le_length (by simp),List.take_of_length_le (by simp)]
 ·simp at h
theorem AW (d e:Dg) (m:Nat) (hm:m < 64):(d.cells++e.cells)[m]? =some (.int .u32 (aA.dig2 d e (m:Int))):=by
 show _=some (Value.int .u32 (if(m:Int) < 32 then((d.dig (m:Int).toNat:Nat):Int) else((e.dig ((m:Int).toNat - 32):Nat):Int)))
 by_cases h:m < 32
 ·rw[if_pos (by omega),List.getElem?_append_left (by simpa using h)]
  simp[Dg.cells,h]
 ·rw[if_neg (by omega),List.getElem?_append_right (by simp;omega)]
  have:m - 32 < 32:=by omega
  simp[Dg.cells,this]
end ops
def PS (P:Program) (w:World) (ρ:Rho) (n:Ids) (r:FR) (s:Sem Value):Prop:=
 ∃ v,r.val= .c v∧r.new=[]∧r.wr=[]∧((∀ b,b∈r.ob→b=true)→s.run P w= .ok (v.den ρ) w∧iK n ρ v)
section
variable {P:Program} {K:Cx} {w0:World} {Wr:jH} {ρ:Rho} {h:bT} {n:Ids} {w:World}
theorem PS.pure {v:CV} {r:FR} {s:Sem Value} (e:dW v=some r) (hr:s.run P w= .ok (v.den ρ) w) (hs:iK n ρ v):PS P w ρ n r s:=by
 simp only[dW,Option.some.injEq] at e;subst e;exact⟨v,rfl,rfl,rfl,fun _=>⟨hr,hs⟩⟩
theorem PS.pureO {v:CV} {ob:List Bool} {r:FR} {s:Sem Value} (e:pureO ob v=some r) (hr:(∀ b,b∈ob→b=true)→s.run P w= .ok (v.den ρ) w) (hs:(∀ b,b∈ob→b=true)→iK n ρ v):PS P w ρ n r s:=by
 simp only[Eng.pureO,Option.some.injEq] at e;subst e;exact⟨v,rfl,rfl,rfl,fun ho=>⟨hr ho,hs ho⟩⟩
theorem yT {l:List At} (h:kY n ρ l):iK n ρ (.g l):=fun ρ' ha=>by
 show Value.agg (aI ρ' l).toArray=Value.agg (aI ρ l).toArray
 rw[h ρ' ha]
theorem pD {l:List At} (h:iK n ρ (.g l)):kY n ρ l:=fun ρ' ha=>by
 have:=h ρ' ha
 simp only[CV.den,Value.agg.injEq] at this
 exact congrArg Array.toList this
theorem rQ {v:CV} (h:iK n ρ v):kY n ρ v.atoms:=by
 cases v with
 | s x=>
  intro ρ' ha
  have e:x.den ρ'=x.den ρ:=h ρ' ha
  show[x.den ρ']++[]=[x.den ρ]++[]
  rw[e]
 | g l=>exact pD h
theorem vK {agg:Bool} {l:List At} {v:CV} (hv:AN agg l=some v) (h:kY n ρ l):iK n ρ v:=by
 unfold AN at hv
 split at hv
 ·simp only[Option.some.injEq] at hv;subst hv
  exact yT fun ρ' ha=>by rw[eF,eF];exact h ρ' ha
 ·split at hv
  ·rename_i x
   simp only[Option.some.injEq] at hv;subst hv
   exact fun ρ' ha=>by
    have e:[x.den ρ']++[]=[x.den ρ]++[]:=h ρ' ha
    show x.den ρ'=x.den ρ
    simpa using e
  ·simp at hv
theorem HS.fix (hs:HS w0 Wr ρ h n w) {id:Nat} {own:Bool} {l:List At} (hl:aN h id=some (.fix own l)) :
  ∃ b o,ρ id= .pointer (some ⟨b,o,none⟩)∧b < w.heap.size∧w.rangeAt b o (aI ρ l)∧(own=true→w.there b o (bO l))∧n id∧kY n ρ l:=by
 obtain⟨h1,⟨b,o,h2,h3,h4,h5⟩,h6⟩:=hs.ok _ _ hl
 exact⟨b,o,h2,h3,h4,h5,h1,h6⟩
theorem fR {id off b o:Nat} (hρ:ρ id= .pointer (some ⟨b,o,none⟩)):(Sc.hp id off).den ρ= .pointer (some ⟨b,o+off,none⟩):=by
 simp[Sc.den,hρ,cF,Addr.add_mid]
theorem Dj {id off:Nat} (hid:n id):iK n ρ (.s (.hp id off)):=fun ρ' ha=>by
 show cF (ρ' id) off=cF (ρ id) off
 rw[ha id hid]
theorem EZ {id e off:Nat} {i:Int} (hid:n id):iK n ρ (.s (.ve id e i off)):=fun ρ' ha=>by
 show(match ρ' id with
  | .slice (some a) _ _=>Value.pointer (some (a.add (i.toNat*e+off)))
  | v=>v)=match ρ id with
  | .slice (some a) _ _=>Value.pointer (some (a.add (i.toNat*e+off)))
  | v=>v
 rw[ha id hid]
theorem v9 {i:Int} (h:aP .leq 0 i=true):0≤i:=by simpa [aP] using h
theorem iA {i j:Int} (h:aP .lss i j=true):i < j:=by simpa [aP] using h
theorem RK.flat_length (k:RK) (l:List k.ty):(k.flat l).length=k.esz*l.length:=by
 induction l with
 | nil=>simp[RK.flat]
 | cons a r ih=>
  have:(k.flat (a :: r)).length=k.esz+(k.flat r).length:=by simp[RK.flat,RK.at_sizes]
  rw[this,ih,List.length_cons,Nat.mul_succ,Nat.add_comm]
theorem RK.flat_elem (k:RK) (l:List k.ty) (d:k.ty): ∀ (i:Nat),i < l.length→ ∀ ρ,((k.flat l).drop (i*k.esz)).take k.esz=aI ρ (k.at (l.getD i d)):=by
 induction l with
 | nil=>intro i hi;simp at hi
 | cons a r ih=>
  intro i hi ρ
  have hl:(aI (fun _=>undef) (k.at a)).length=k.esz:=by simp[RK.at_sizes]
  have hf:k.flat (a :: r)=aI (fun _=>undef) (k.at a)++k.flat r:=by simp[RK.flat]
  cases i with
  | zero=>
   rw[hf]
   simp only[Nat.zero_mul,List.drop_zero]
   rw[List.take_append_of_le_length (by omega),List.take_of_length_le (by omega)]
   simpa using k.at_flats a _ _
  | succ i=>
   rw[hf,List.drop_append]
   have e1:(i+1)*k.esz - (aI (fun _=>undef) (k.at a)).length=i*k.esz:=by rw[hl,Nat.add_mul];omega
   have e2:(aI (fun _=>undef) (k.at a)).drop ((i+1)*k.esz)=[]:=List.drop_eq_nil_of_le (by rw[hl,Nat.add_mul];omega)
   rw[e1,e2,List.nil_append,ih i (by simpa using hi) ρ]
   simp
theorem HS.vec (hs:HS w0 Wr ρ h n w) {id:Nat} {own:Bool} {k:RK} {l:List k.ty} (hl:aN h id=some (.vec own k l)) (h0:0 < l.length) :
  ∃ b o cap,ρ id= .slice (some ⟨b,o,none⟩) l.length cap∧l.length≤cap∧b < w.heap.size∧w.rangeAt b o (k.flat l)∧(own=true→w.there b o (k.esz*l.length))∧n id:=by
 obtain⟨h1,⟨base,cap,h2,h3,h4⟩,h6⟩:=hs.ok _ _ hl
 cases base with
 | none=>obtain⟨h4,_⟩:=h4;subst h4;simp at h0
 | some a=>
  obtain⟨b,o,rfl,h5,h7,h8⟩:=h4
  exact⟨b,o,cap,h2,h3,h5,h7,fun e j hj=>h8 e j (Nat.lt_of_lt_of_le hj (Nat.mul_le_mul_left _ h3)),h1⟩
theorem HS.vecC (hs:HS w0 Wr ρ h n w) {id:Nat} {own:Bool} {k:RK} {l:List k.ty} (hl:aN h id=some (.vec own k l)) (h0:0 < l.length) :
  ∃ b o cap,ρ id= .slice (some ⟨b,o,none⟩) l.length cap∧l.length≤cap∧b < w.heap.size∧w.rangeAt b o (k.flat l)∧(own=true→w.there b o (k.esz*cap))∧n id:=by
 obtain⟨h1,⟨base,cap,h2,h3,h4⟩,h6⟩:=hs.ok _ _ hl
 cases base with
 | none=>obtain⟨h4,_⟩:=h4;subst h4;simp at h0
 | some a=>obtain⟨b,o,rfl,h5,h7,h8⟩:=h4;exact⟨b,o,cap,h2,h3,h5,h7,h8,h1⟩
theorem sU {id off esz b o cap:Nat} {lo hi:Int} (hρ:ρ id= .pointer (some ⟨b,o,none⟩)):(Sc.ha id off esz lo hi cap).den ρ= .slice (some (if cap=lo.toNat then⟨b,o+off,none⟩ else⟨b,o+(off+lo.toNat*esz),none⟩)) (hi.toNat - lo.toNat) (cap - lo.toNat):=by
 simp[Sc.den,hρ,Addr.add_mid]
theorem Nc {id off esz cap:Nat} {lo hi:Int} (hid:n id):iK n ρ (.s (.ha id off esz lo hi cap)):=fun ρ' ha=>by
 show(Sc.ha id off esz lo hi cap).den ρ'=(Sc.ha id off esz lo hi cap).den ρ
 simp only[Sc.den];rw[ha id hid]
theorem rS {id e off b o len cap:Nat} {i:Int} (hρ:ρ id= .slice (some ⟨b,o,none⟩) len cap):(Sc.ve id e i off).den ρ= .pointer (some ⟨b,o+(i.toNat*e+off),none⟩):=by
 simp[Sc.den,hρ,Addr.add_mid]
theorem Dt (hA:K.A=aA) (hT:TOK P K.T) (hs:HS w0 Wr ρ h n w) {t:Nat} {p:Sc} {r:FR} (e:zL K h t p=some r) :
  PS P w ρ n r (Instr.loadAt t (p.den ρ)):=by
 unfold zL at e
 split at e
 ·simp at e
 ·rename_i i ht
  have ty:=hT _ _ ht
  split at e
  ·
    rename_i id off
    split at e
    ·rename_i own l hl
     obtain⟨b,o,h1,h2,h3,h4,h5,h6⟩:=hs.fix hl
     rw[fR h1]
     split at e
     ·rename_i m hm
      obtain⟨h7,h8⟩:=eI ρ hm
      split at e
      ·rename_i v hv
       have hr:=gV off i.size h3
       rw[← h8] at hr
       have hsz:bO m=i.size:=by rw[← flats_length ρ m,h8];simp;omega
       refine PS.pure e (oV ty hr hsz hv) (vK hv fun ρ' ha=>?_)
       rw[h8,(eI ρ' hm).2,h6 ρ' ha]
      ·simp at e
     ·split at e
      ·rename_i hsz
       split at e
       ·rename_i x hx
        rw[hA] at hx
        obtain⟨v,rfl,hv⟩:=xI (ρ:=ρ) hx
        refine PS.pure e ?_ fun ρ' _=>rfl
        have hc:=h3 off _ hv
        simp only[Instr.loadAt,Instr.sureAddr,Sem.run_bind,Sem.run_pure,Result.andThen_ok]
        rw[jP ty (by simp at hsz;exact hsz.2) hc];rfl
       ·simp at e
      ·simp at e
    ·simp at e
  ·
    rename_i id base esz j off
    split at e
    ·rename_i own l hl
     split at e
     ·rename_i hc
      simp only[Bool.and_eq_true,beq_iff_eq,Bool.not_eq_true'] at hc
      obtain⟨⟨⟨hc1,hc2⟩,hc3⟩,hc4⟩:=hc
      subst hc1 hc2
      split at e
      ·rename_i d d' hd
       obtain⟨b,o,h1,h2,h3,h4,h5,h6⟩:=hs.fix hl
       rw[hA] at e
       refine PS.pureO e (fun ho=>?_) fun _ ρ' _=>rfl
       have g1:=v9 (ho _ (List.mem_cons_self ..))
       have g2:=iA (ho _ (List.mem_cons_of_mem _ (List.mem_cons_self ..)))
       obtain⟨m,rfl⟩:=Int.eq_ofNat_of_zero_le g1
       have g3:m < 64:=by omega
       obtain⟨h7,h8⟩:=vL (ρ:=ρ) hd
       have hv:(aI ρ l)[base+m]? =some (.int .u32 (aA.dig2 d d' (m:Int))):=by
        have:(((aI ρ l).drop base).take 64)[m]? =(d.cells++d'.cells)[m]? :=by rw[h8]
        rw[List.getElem?_take,if_pos g3,List.getElem?_drop] at this
        rw[this,AW d d' m g3]
       have hcell:=h3 _ _ hv
       have hden:(Sc.pe id base 1 (m:Int) 0).den ρ= .pointer (some ⟨b,o+(base+m),none⟩):=by
        simp[Sc.den,h1,cF,Addr.add_mid]
       rw[hden]
       simp only[Instr.loadAt,Instr.sureAddr,Sem.run_bind,Sem.run_pure,Result.andThen_ok]
       rw[jP ty hc4 hcell]
       rfl
      ·split at e
       ·rename_i d hd
        obtain⟨b,o,h1,h2,h3,h4,h5,h6⟩:=hs.fix hl
        rw[hA] at e
        refine PS.pureO e (fun ho=>?_) fun _ ρ' _=>rfl
        have g1:=v9 (ho _ (List.mem_cons_self ..))
        have g2:=iA (ho _ (List.mem_cons_of_mem _ (List.mem_cons_self ..)))
        obtain⟨m,rfl⟩:=Int.eq_ofNat_of_zero_le g1
        have g3:m < 32:=by omega
        obtain⟨h7,h8⟩:=j7 (ρ:=ρ) hd
        have hv:(aI ρ l)[base+m]? =some (.int .u32 (d.dig m:Nat)):=by
         have:(((aI ρ l).drop base).take 32)[m]? =d.cells[m]? :=by rw[h8]
         rw[List.getElem?_take,if_pos g3,List.getElem?_drop] at this
         rw[this];simp[Dg.cells,g3]
        have hcell:=h3 _ _ hv
        have hden:(Sc.pe id base 1 (m:Int) 0).den ρ= .pointer (some ⟨b,o+(base+m),none⟩):=by
         simp[Sc.den,h1,cF,Addr.add_mid]
        rw[hden]
        simp only[Instr.loadAt,Instr.sureAddr,Sem.run_bind,Sem.run_pure,Result.andThen_ok]
        rw[jP ty hc4 hcell]
        rfl
       ·simp at e
     ·simp at e
    ·simp at e
  ·
    rename_i id esz j off
    split at e
    ·rename_i own k l hl
     split at e
     ·rename_i m hm
      split at e
      ·rename_i v hv
       split at e
       ·rename_i hesz
        simp only[beq_iff_eq] at hesz
        subst hesz
        rw[hA] at e hm
        refine PS.pureO e (fun ho=>?_) fun _=>vK hv fun ρ' ha=>?_
        ·have g1:=v9 (ho _ (List.mem_cons_self ..))
         have g2:=iA (ho _ (List.mem_cons_of_mem _ (List.mem_cons_self ..)))
         obtain⟨m',rfl⟩:=Int.eq_ofNat_of_zero_le g1
         have g3:m' < l.length:=by simpa [aA] using g2
         obtain⟨b,o,cap,h1,h2,h3,h4,h5,h6⟩:=hs.vec hl (by omega)
         rw[rS h1]
         obtain⟨h7,h8⟩:=eI ρ hm
         have hel:=RK.flat_elem k l (k.dflt aA) m' g3 ρ
         have hr:=gV (m'*k.esz) k.esz h4
         rw[hel] at hr
         have hr2:=gV off i.size hr
         have hg:aA.get l (m':Int) (k.dflt aA)=l.getD m' (k.dflt aA):=rfl
         rw[hg] at h8
         rw[← h8] at hr2
         have hsz:bO m=i.size:=by
          rw[← flats_length ρ m,h8,List.length_take,List.length_drop,flats_length,RK.at_sizes]
          rw[RK.at_sizes] at h7
          omega
         rw[show o+((m':Int).toNat*k.esz+off)=o+m'*k.esz+off from by simp[Nat.add_assoc]]
         exact oV ty hr2 hsz hv
        ·rw[(eI ρ' hm).2,(eI ρ hm).2,RK.at_flats k _ ρ' ρ]
       ·simp at e
      ·simp at e
     ·simp at e
    ·simp at e
  ·simp at e
theorem FX {fs:List Field} : ∀ {l:List (Nat×Nat)} {f o z:Nat},(fs.mapM fun f=>(P.info? f.type).map fun i=>(f.offset,i.size))=some l→l[f]? =some (o,z)→
  ∃ g,fs[f]? =some g∧g.offset=o∧(P.info? g.type).map (·.size)=some z:=by
 induction fs with
 | nil=>intro l f o z h hf;simp at h;subst h;simp at hf
 | cons g r ih=>
  intro l f o z h hf
  rw[List.mapM_cons] at h
  simp only[bind,Option.bind_eq_some_iff,pure,Option.some.injEq,Option.map_eq_some_iff] at h
  obtain⟨a,⟨i,hi,rfl⟩,l',hl',rfl⟩:=h
  cases f with
  | zero=>simp at hf;exact⟨g,by simp,hf.1,by simp[hi,hf.2]⟩
  | succ f=>obtain⟨g',h1,h2,h3⟩:=ih hl' (by simpa using hf);exact⟨g',by simpa using h1,h2,h3⟩
theorem FB (hA:K.A=aA) (hT:TOK P K.T) (hs:HS w0 Wr ρ h n w) {t f:Nat} {p:Sc} {r:FR} (e:xN K h t p f=some r) :
  PS P w ρ n r (Instr.fieldAt t (p.den ρ) f):=by
 unfold xN at e
 split at e
 ·rename_i i ht
  have ty:=hT _ _ ht
  split at e
  ·rename_i o ft hf
   have hmem:(o,ft)∈i.fields:=List.mem_of_getElem? hf
   have hgo: ∀ a:Addr,(Instr.fieldAt t (.pointer (some a)) f).run P w= .ok (.pointer (some (a.add o))) w:=by
    intro a
    rcases ty.fields with h0 | ⟨fs,hu,hfs⟩
    ·rw[h0] at hf;simp at hf
    ·obtain⟨g,hg,hgo,hj⟩:=FX hfs hf
     have hj0:ft≠0:=ty.fsize _ _ hmem
     have hfld:fs[f]? =some g:=by simpa using hg
     unfold Instr.fieldAt
     rw[Sem.run_bind,run_underlying hu w]
     simp only[Result.andThen_ok,hfld,Instr.sureAddr,Sem.run_bind,Sem.run_pure,fieldPlace,cG hj]
     simp[hj0,hgo]
   split at e
   ·rename_i id off
    split at e
    ·rename_i own l hl
     obtain⟨b,o',h1,h2,h3,h4,h5,h6⟩:=hs.fix hl
     rw[fR h1]
     refine PS.pure e ?_ (Dj h5)
     rw[hgo]
     show _=Result.ok ((Sc.hp id (off+o)).den ρ) w
     rw[fR h1,Addr.add_mid,Nat.add_assoc]
    ·simp at e
   ·rename_i id esz j off
    split at e
    ·rename_i own k l hl
     rw[hA] at e
     have hid:=(hs.ok _ _ hl).1
     refine PS.pureO e (fun ho=>?_) fun _=>EZ hid
     have g1:=v9 (ho _ (List.mem_cons_self ..))
     have g2:=iA (ho _ (List.mem_cons_of_mem _ (List.mem_cons_self ..)))
     have g3:0 < l.length:=by have:j < (l.length:Int):=g2;omega
     obtain⟨b,o',cap,h1,h2,h3,h4,h5,h6⟩:=hs.vec hl g3
     rw[rS h1,hgo]
     show _=Result.ok ((Sc.ve id esz j (off+o)).den ρ) w
     rw[rS h1,Addr.add_mid]
     simp only[Nat.add_assoc]
    ·simp at e
   ·simp at e
  ·simp at e
 ·simp at e
theorem cI {x:Sc} {lit:Bool} {k:IntKind} {j:Int} (h:x.num=some (lit,k,j)):x.den ρ= .int k j:=by
 cases x <;> simp[Sc.num] at h <;> obtain⟨_,rfl,rfl⟩:=h <;> rfl
theorem nU {x:Sc} {l b:Bool} (hx:x.boo=some (l,b)):x.den ρ= .bool b:=by
 cases x <;> simp[Sc.boo] at hx <;> obtain⟨_,rfl⟩:=hx <;> rfl
theorem Nf (hA:K.A=aA) (hT:TOK P K.T) (hs:HS w0 Wr ρ h n w) {t:Nat} {p x:Sc} {r:FR} (e:I9 K h t p x=some r) :
  PS P w ρ n r (Instr.indexAt t (p.den ρ) (x.den ρ)):=by
 unfold I9 at e
 split at e
 ·rename_i i ht
  have ty:=hT _ _ ht
  have hgo: ∀ (m el esz:Nat) (k:IntKind) (j:Int) (a:Addr),i.arr=some (m,el,esz)→0≤j→j < m→(Instr.indexAt t (.pointer (some a)) (.int k j)).run P w= .ok (.pointer (some (a.add (j.toNat*esz)))) w:=by
   intro m el esz k j a harr h0 h1
   obtain⟨hu,hz⟩:=ty.arr _ _ _ harr
   unfold Instr.indexAt
   simp only[asIntOf,Sem.run_bind,Sem.run_pure,Result.andThen_ok,run_underlying hu w,Instr.sureAddr]
   simp only[h0,h1,and_self,if_true,Sem.run_bind,cG hz,Result.andThen_ok,Sem.run_pure]
  split at e
  ·
    rename_i m el esz id off k j harr hx
    split at e
    ·rename_i own l hl
     split at e
     ·rename_i hb
      simp only[Bool.and_eq_true] at hb
      obtain⟨b,o',h1,h2,h3,h4,h5,h6⟩:=hs.fix hl
      rw[cI hx,fR h1]
      refine PS.pure e ?_ (Dj h5)
      rw[hgo _ _ _ _ _ _ harr (v9 hb.1) (iA hb.2)]
      show _=Result.ok ((Sc.hp id (off+j.toNat*esz)).den ρ) w
      rw[fR h1,Addr.add_mid,Nat.add_assoc]
     ·simp at e
    ·simp at e
  ·rename_i m el esz id off k j harr hx
   split at e
   ·rename_i own l hl
    rw[hA] at e
    obtain⟨b,o',h1,h2,h3,h4,h5,h6⟩:=hs.fix hl
    rw[cI hx,fR h1]
    refine PS.pureO e (fun ho=>?_) fun _ ρ' ha=>?_
    ·have g1:=v9 (ho _ (List.mem_cons_self ..))
     have g2:=iA (ho _ (List.mem_cons_of_mem _ (List.mem_cons_self ..)))
     rw[hgo _ _ _ _ _ _ harr g1 g2]
     show _=Result.ok ((Sc.pe id off esz j 0).den ρ) w
     simp[Sc.den,h1,cF,Addr.add_mid,Nat.add_assoc]
    ·show cF (ρ' id) _=cF (ρ id) _
     rw[ha id h5]
   ·simp at e
  ·rename_i m el esz id z mi off k j harr hx
   split at e
   ·rename_i own k' l hl
    split at e
    ·rename_i hb
     simp only[Bool.and_eq_true] at hb
     rw[hA] at e
     have hid:=(hs.ok _ _ hl).1
     refine PS.pureO e (fun ho=>?_) fun _=>EZ hid
     have g1:=v9 (ho _ (List.mem_cons_self ..))
     have g2:mi < (l.length:Int):=iA (ho _ (List.mem_cons_of_mem _ (List.mem_cons_self ..)))
     obtain⟨b,o',cap,h1,h2,h3,h4,h5,h6⟩:=hs.vec hl (by omega)
     rw[cI hx,rS h1,hgo _ _ _ _ _ _ harr (v9 hb.1) (iA hb.2)]
     show _=Result.ok ((Sc.ve id z mi (off+j.toNat*esz)).den ρ) w
     rw[rS h1,Addr.add_mid]
     simp only[Nat.add_assoc]
    ·simp at e
   ·simp at e
  ·rename_i id lit k j harr hx
   split at e
   ·rename_i el esz kk own k' l hel hl
    rw[hA] at e
    obtain⟨hu,hz,hzz,_⟩:=ty.elem _ _ _ hel
    have hid:=(hs.ok _ _ hl).1
    refine PS.pureO e (fun ho=>?_) fun _=>EZ hid
    have g1:=v9 (ho _ (List.mem_cons_self ..))
    have g2:j < (l.length:Int):=iA (ho _ (List.mem_cons_of_mem _ (List.mem_cons_self ..)))
    obtain⟨b,o',cap,h1,h2,h3,h4,h5,h6⟩:=hs.vec hl (by omega)
    rw[cI hx]
    show(Instr.indexAt t (ρ id) (.int k j)).run P w=Result.ok ((Sc.ve id esz j 0).den ρ) w
    rw[rS h1,h1]
    unfold Instr.indexAt
    simp only[asIntOf,Sem.run_bind,Sem.run_pure,Result.andThen_ok,run_underlying hu w]
    simp only[g1,g2,and_self,if_true,Sem.run_bind,cG hz,Result.andThen_ok,Sem.run_pure,Addr.add_mid,Nat.add_zero]
   ·simp at e
  ·rename_i id z lo hi lit k j harr hx
   split at e
   ·rename_i el esz kk own k' l hel hl
    split at e
    ·rename_i hze
     simp only[beq_iff_eq] at hze
     subst hze
     rw[hA] at e
     obtain⟨hu,hz,hzz,_⟩:=ty.elem _ _ _ hel
     have hid:=(hs.ok _ _ hl).1
     refine PS.pureO e (fun ho=>?_) fun _=>EZ hid
     simp only[List.forall_mem_cons,aA,aP,decide_eq_true_eq] at ho
     obtain⟨g0,g1,g2,g3, -⟩:=ho
     obtain⟨b,o',cap,h1,h2,h3,h4,h5,h6⟩:=hs.vec hl (by omega)
     rw[cI hx]
     show(Instr.indexAt t ((Sc.hw id z lo hi).den ρ) (.int k j)).run P w=Result.ok ((Sc.ve id z (lo+j) 0).den ρ) w
     rw[rS h1]
     have hc:cap≠lo.toNat:=by omega
     have hj:j < ((hi.toNat - lo.toNat:Nat):Int):=by omega
     simp only[Sc.den,h1,if_neg hc,Option.map_some,Addr.add_mid]
     unfold Instr.indexAt
     simp only[asIntOf,Sem.run_bind,Sem.run_pure,Result.andThen_ok,run_underlying hu w]
     simp only[g2,hj,and_self,if_true,Sem.run_bind,cG hz,Result.andThen_ok,Sem.run_pure,Addr.add_mid,Nat.add_zero]
     rw[Int.toNat_add g0 g2,Nat.add_mul,Nat.add_assoc]
    ·simp at e
   ·simp at e
  ·rename_i id off z lo hi cap lit k j harr hx
   split at e
   ·rename_i el esz kk own l hel hl
    split at e
    ·rename_i hze
     simp only[beq_iff_eq] at hze
     subst hze
     rw[hA] at e
     obtain⟨hu,hz,hzz,_⟩:=ty.elem _ _ _ hel
     obtain⟨b,o',h1,h2,h3,h4,h5,h6⟩:=hs.fix hl
     refine PS.pureO e (fun ho=>?_) fun _ ρ' ha=>?_
     ·simp only[List.forall_mem_cons,aA,aP,decide_eq_true_eq] at ho
      obtain⟨g0,g1,g2,g3, -⟩:=ho
      rw[cI hx,sU h1]
      have hc:cap≠lo.toNat:=by omega
      have hj:j < ((hi.toNat - lo.toNat:Nat):Int):=by omega
      rw[if_neg hc]
      unfold Instr.indexAt
      simp only[asIntOf,Sem.run_bind,Sem.run_pure,Result.andThen_ok,run_underlying hu w]
      simp only[g2,hj,and_self,if_true,Sem.run_bind,cG hz,Result.andThen_ok,Sem.run_pure,Addr.add_mid,Nat.add_zero]
      show _=Result.ok ((Sc.pe id off z (lo+j) 0).den ρ) w
      simp only[Sc.den,h1,cF,Addr.add_mid,Nat.add_zero]
      rw[Int.toNat_add g0 g2,Nat.add_mul]
      simp[Nat.add_assoc]
     ·show cF (ρ' id) _=cF (ρ id) _
      rw[ha id h5]
    ·simp at e
   ·simp at e
  ·simp at e
 ·simp at e
theorem PE (hA:K.A=aA) (hT:TOK P K.T) {t:Nat} {p x:Sc} {r:FR} (e:PK K t p x=some r) :
  PS P w ρ n r (Instr.index t (p.den ρ) (x.den ρ)):=by
 unfold PK at e
 split at e
 ·rename_i i ht
  split at e
  ·rename_i s lit k j hsc hx
   rw[hA] at e
   refine PS.pureO e (fun ho=>?_) fun _ _ _=>rfl
   simp only[List.forall_mem_cons,aA,aP,decide_eq_true_eq] at ho
   obtain⟨g0,g1, -⟩:=ho
   rw[cI hx]
   have hu:=(hT _ _ ht).str hsc
   have hlt:j.toNat < s.size:=by omega
   have hs:s[j.toNat]? =some s[j.toNat]:=by simp[hlt]
   unfold Instr.index
   simp only[asIntOf,Sem.run_bind,Sem.run_pure,Result.andThen_ok,run_underlying hu w,Sc.den,if_pos g0,hs,aA]
   rfl
  ·simp at e
 ·simp at e
theorem sX {k:IntKind} : ∀ {l:List At} {m:List Int},B1 k l=some m→aI ρ l=m.map (Value.int k)
 | [],m,h=>by simp only[B1,Option.some.injEq] at h;subst h;rfl
 | .s x :: r,m,h=>by
  simp only[B1] at h
  split at h
  ·rename_i hx hr
   split at h
   ·rename_i hk
    subst hk
    simp only[Option.some.injEq] at h;subst h
    simp only[aI,At.cells,cI hx,sX hr,List.map_cons];rfl
   ·simp at h
  ·simp at h
 | .D _ :: _,_,h=>by simp[B1] at h
 | .W _ :: _,_,h=>by simp[B1] at h
 | .R _ :: _,_,h=>by simp[B1] at h
 | .P _ :: _,_,h=>by simp[B1] at h
theorem sD: ∀ {l:List At} {m:List Bool},BZ l=some m→aI ρ l=m.map Value.bool
 | [],m,h=>by simp only[BZ,Option.some.injEq] at h;subst h;rfl
 | .s x :: r,m,h=>by
  simp only[BZ] at h
  split at h
  ·rename_i hx hr
   simp only[Option.some.injEq] at h;subst h
   have:x.den ρ= .bool _:=nU hx
   simp only[aI,At.cells,this,sD hr,List.map_cons];rfl
  ·simp at h
 | .D _ :: _,_,h=>by simp[BZ] at h
 | .W _ :: _,_,h=>by simp[BZ] at h
 | .R _ :: _,_,h=>by simp[BZ] at h
 | .P _ :: _,_,h=>by simp[BZ] at h
theorem tJ: ∀ {l:List At} {m:List ByteArray},Lm l=some m→aI ρ l=m.map Value.string
 | [],m,h=>by simp only[Lm,Option.some.injEq] at h;subst h;rfl
 | a :: r,m,h=>by
  unfold Lm at h
  split at h
  ·rename_i he;cases he
  ·rename_i b r' he
   cases he
   split at h
   ·rename_i l hr
    simp only[Option.some.injEq] at h;subst h
    simp only[aI,At.cells,Sc.den,tJ hr,List.map_cons];rfl
   ·simp at h
  ·simp at h
theorem wG {l:List At} {j:Int} {y:Sc} (h:D4 aA l j=some y) (h1:j.toNat < l.length):(aI ρ l)[j.toNat]? =some (y.den ρ)∧ ∀ ρ',y.den ρ'=y.den ρ:=by
 have hlen: ∀ {α:Type} (f:α→Value) (m:List α) (d:α),aI ρ l=m.map f→(∀ a,a∈l→a.size=1)→(m.map f)[j.toNat]? =some (f (m.getD j.toNat d)):=fun f m d he hs=>by
  have hsz: ∀ q:List At,(∀ a,a∈q→a.size=1)→bO q=q.length:=fun q=>by
   induction q with
   | nil=>intro _;rfl
   | cons a r ih=>intro h;simp only[bO,List.length_cons,h a (List.mem_cons_self ..),ih fun b hb=>h b (List.mem_cons_of_mem _ hb)];omega
  have hm:m.length=l.length:=by
   have:=congrArg List.length he
   rw[flats_length,hsz l hs] at this
   simpa using this.symm
  have:j.toNat < m.length:=by omega
  simp[List.getElem?_map,this]
 unfold D4 at h
 split at h
 ·split at h
  ·split at h
   ·rename_i m hm
    simp only[Option.some.injEq] at h;subst h
    have he:=sX (ρ:=ρ) hm
    rw[he]
    refine⟨hlen _ _ 0 he fun a ha=>?_,fun _=>rfl⟩
    have: ∀ (q:List At) (m:List Int) k,B1 k q=some m→ ∀ a,a∈q→a.size=1:=fun q=>by
     induction q with
     | nil=>intro _ _ _ a ha;simp at ha
     | cons b r ih=>
      intro m k hm a ha
      cases b with
      | s x=>
       simp only[B1] at hm
       split at hm
       ·rename_i hr
        simp only[List.mem_cons] at ha
        rcases ha with rfl | ha
        ·rfl
        ·exact ih _ _ hr a ha
       ·simp at hm
      | _=>simp[B1] at hm
    exact this _ _ _ hm a ha
   ·simp at h
  ·split at h
   ·split at h
    ·rename_i m hm
     simp only[Option.some.injEq] at h;subst h
     have he:=sD (ρ:=ρ) hm
     rw[he]
     refine⟨hlen _ _ false he fun a ha=>?_,fun _=>rfl⟩
     have: ∀ (q:List At) (m:List Bool),BZ q=some m→ ∀ a,a∈q→a.size=1:=fun q=>by
      induction q with
      | nil=>intro _ _ a ha;simp at ha
      | cons b r ih=>
       intro m hm a ha
       cases b with
       | s x=>
        simp only[BZ] at hm
        split at hm
        ·rename_i hr
         simp only[List.mem_cons] at ha
         rcases ha with rfl | ha
         ·rfl
         ·exact ih _ hr a ha
        ·simp at hm
       | _=>simp[BZ] at hm
     exact this _ _ hm a ha
    ·simp at h
   ·split at h
    ·rename_i m hm
     simp only[Option.some.injEq] at h;subst h
     have he:=tJ (ρ:=ρ) hm
     rw[he]
     refine⟨hlen _ _ ByteArray.empty he fun a ha=>?_,fun _=>rfl⟩
     have: ∀ (q:List At) (m:List ByteArray),Lm q=some m→ ∀ a,a∈q→a.size=1:=fun q=>by
      induction q with
      | nil=>intro _ _ a ha;simp at ha
      | cons b r ih=>
       intro m hm a ha
       unfold Lm at hm
       split at hm
       ·rename_i he;cases he
       ·rename_i b r' he
        cases he
        split at hm
        ·rename_i hr
         simp only[List.mem_cons] at ha
         rcases ha with rfl | ha
         ·rfl
         ·exact ih _ hr a ha
        ·simp at hm
       ·simp at hm
     exact this _ _ hm a ha
    ·simp at h
 ·simp at h
theorem GW (hA:K.A=aA) (hT:TOK P K.T) {t:Nat} {l:List At} {x:Sc} {r:FR} (e:xO K t l x=some r) :
  PS P w ρ n r (Instr.index t ((CV.g l).den ρ) (x.den ρ)):=by
 unfold xO at e
 split at e
 ·rename_i i ht
  split at e
  ·rename_i m el lit k j harr hx
   split at e
   ·rename_i ie hte
    split at e
    ·rename_i hagg hln
     split at e
     ·rename_i y hy
      rw[hA] at e hy
      simp only[beq_iff_eq] at hln
      have hpk:=fun h=>wG (ρ:=ρ) hy h
      refine PS.pureO e (fun ho=>?_) fun ho=>?_
      ·simp only[List.forall_mem_cons,aA,aP,decide_eq_true_eq] at ho
       obtain⟨g0,g1, -⟩:=ho
       obtain⟨p1,p2⟩:=hpk (by omega)
       rw[cI hx]
       obtain⟨hu,hz⟩:=(hT _ _ ht).arr _ _ _ harr
       unfold Instr.index
       simp only[asIntOf,Sem.run_bind,Sem.run_pure,Result.andThen_ok,run_underlying hu w,CV.den,if_pos (And.intro g0 g1),cG hz,Nat.mul_one]
       unfold part
       rw[Sem.run_bind,rM (hT _ _ hte),hagg]
       simp only[Result.andThen_ok,Bool.false_eq_true,if_false,List.getElem?_toArray,p1]
       rfl
      ·simp only[List.forall_mem_cons,aA,aP,decide_eq_true_eq] at ho
       obtain⟨g0,g1, -⟩:=ho
       obtain⟨p1,p2⟩:=hpk (by omega)
       exact fun ρ' _=>p2 ρ'
     ·simp at e
    ·simp at e
   ·simp at e
  ·simp at e
 ·simp at e
theorem GX (hT:TOK P K.T) {t:Nat} {l:List At} {x:Sc} {r:FR} (hl:iK n ρ (.g l)) (e:xP K t l x=some r) :
  PS P w ρ n r (Instr.index t ((CV.g l).den ρ) (x.den ρ)):=by
 unfold xP at e
 split at e
 ·rename_i i ht
  split at e
  ·rename_i m el z k j harr hx
   split at e
   ·rename_i ie hte
    split at e
    ·rename_i hc
     simp only[Bool.and_eq_true,aP,decide_eq_true_eq,beq_iff_eq] at hc
     obtain⟨⟨⟨hagg,hsz⟩,g0⟩,g1⟩:=hc
     split at e
     ·rename_i q hq
      have hfl: ∀ ρ',bZ n ρ ρ'→aI ρ' l=aI ρ l:=fun ρ' ha=>by
       have:=hl ρ' ha
       have h2:Value.agg (aI ρ' l).toArray=Value.agg (aI ρ l).toArray:=this
       injection h2 with h3
       exact congrArg Array.toList h3
      refine PS.pure e ?_ fun ρ' ha=>?_
      ·obtain⟨hu,hz⟩:=(hT _ _ ht).arr _ _ _ harr
       rw[cI hx]
       unfold Instr.index
       simp only[asIntOf,Sem.run_bind,Sem.run_pure,Result.andThen_ok,run_underlying hu w,CV.den,if_pos (And.intro g0 g1),cG hz]
       unfold part
       rw[Sem.run_bind,rM (hT _ _ hte),hagg]
       simp only[Result.andThen_ok,if_true]
       rw[Sem.run_bind,cG hz]
       simp only[Result.andThen_ok,Sem.run_pure]
       obtain⟨q1,q2⟩:=eI ρ hq
       congr 2
       rw[eF,q2]
       apply Array.toList_inj.1
       rw[Array.toList_extract]
       simp only[List.extract,Nat.add_sub_cancel_left]
      ·show Value.agg (aI ρ' (merge q)).toArray=Value.agg (aI ρ (merge q)).toArray
       rw[eF,eF,(eI ρ' hq).2,(eI ρ hq).2,hfl ρ' ha]
     ·simp at e
    ·simp at e
   ·simp at e
  ·simp at e
 ·simp at e
theorem K5 (hA:K.A=aA) (hT:TOK P K.T) {t:Nat} {l:List At} {x:Sc} {r:FR} (hl:iK n ρ (.g l)) (e:CG K t l x=some r) :
  PS P w ρ n r (Instr.index t ((CV.g l).den ρ) (x.den ρ)):=by
 unfold CG at e
 split at e
 ·exact GX hT hl e
 ·exact GW hA hT e
theorem tU {v:Option Sc} {d j:Int} (h:bnd v d=some j):(v=none∧j=d)∨ ∃ x k,v=some x∧x.den ρ= .int k j:=by
 unfold bnd at h
 split at h
 ·simp only[Option.some.injEq] at h;exact .inl ⟨rfl,h.symm⟩
 ·rename_i x
  split at h
  ·rename_i hx
   simp only[Option.some.injEq] at h
   subst h
   exact .inr ⟨x,_,rfl,cI hx⟩
  ·simp at h
theorem AP {lo hi:Option Sc} {len cap:Nat} {a b:Int} (ha:bnd lo 0=some a) (hb:bnd hi len=some b) (h0:0≤a) (h1:a≤b) (h2:b≤cap) :
  (Instr.sliceBounds true len cap (lo.map (Sc.den ρ)) (hi.map (Sc.den ρ)) none).run P w= .ok (a.toNat,b.toNat,cap) w:=by
 unfold Instr.sliceBounds
 have e1: ∀ (k:IntKind) (code:BoundsCode),(Instr.sliceBound (.int k b) cap code).run P w= .ok b.toNat w:=fun k code=>by
  unfold Instr.sliceBound
  simp only[asIntOf,Sem.run_bind,Sem.run_pure,Result.andThen_ok]
  rw[if_pos ⟨by omega,h2⟩];rfl
 have e2: ∀ (k:IntKind) (code:BoundsCode),(Instr.sliceBound (.int k a) b.toNat code).run P w= .ok a.toNat w:=fun k code=>by
  unfold Instr.sliceBound
  simp only[asIntOf,Sem.run_bind,Sem.run_pure,Result.andThen_ok]
  rw[if_pos ⟨h0,by omega⟩];rfl
 rcases tU (ρ:=ρ) ha with ⟨rfl,rfl⟩ | ⟨x,kx,rfl,hx⟩ <;> rcases tU (ρ:=ρ) hb with ⟨rfl,rfl⟩ | ⟨y,ky,rfl,hy⟩
 ·simp
 ·simp[hy,e1]
 ·have:=e2 kx .sliceB
  simp at this
  simp[hx,this]
 ·simp[hx,hy,e1,e2]
theorem amX {lo hi:Option Sc} {m:Nat} {a b:Int} (ha:bnd lo 0=some a) (hb:bnd hi m=some b) (h0:0≤a) (h1:a≤b) (h2:b≤m) :
  (Instr.sliceBounds false m m (lo.map (Sc.den ρ)) (hi.map (Sc.den ρ)) none).run P w= .ok (a.toNat,b.toNat,m) w:=by
 unfold Instr.sliceBounds
 have e1: ∀ (k:IntKind) (code:BoundsCode),(Instr.sliceBound (.int k b) m code).run P w= .ok b.toNat w:=fun k code=>by
  unfold Instr.sliceBound
  simp only[asIntOf,Sem.run_bind,Sem.run_pure,Result.andThen_ok]
  rw[if_pos ⟨by omega,h2⟩];rfl
 have e2: ∀ (k:IntKind) (code:BoundsCode),(Instr.sliceBound (.int k a) b.toNat code).run P w= .ok a.toNat w:=fun k code=>by
  unfold Instr.sliceBound
  simp only[asIntOf,Sem.run_bind,Sem.run_pure,Result.andThen_ok]
  rw[if_pos ⟨h0,by omega⟩];rfl
 rcases tU (ρ:=ρ) ha with ⟨rfl,rfl⟩ | ⟨x,kx,rfl,hx⟩ <;> rcases tU (ρ:=ρ) hb with ⟨rfl,rfl⟩ | ⟨y,ky,rfl,hy⟩
 ·simp
 ·simp[hy,e1]
 ·have:=e2 kx .sliceB
  simp at this
  simp[hx,this]
 ·simp[hx,hy,e1,e2]
theorem Hh (hA:K.A=aA) (hT:TOK P K.T) (hs:HS w0 Wr ρ h n w) {t:Nat} {x:Sc} {lo hi:Option Sc} {r:FR} (e:xQ K h t x lo hi=some r) :
  PS P w ρ n r (Instr.sliceAt t (x.den ρ) (lo.map (Sc.den ρ)) (hi.map (Sc.den ρ)) none):=by
 unfold xQ at e
 split at e
 ·simp at e
 ·rename_i i ht
  split at e
  ·split at e
   ·
     rename_i m el esz id off harr
     split at e
     ·rename_i own l hl
      obtain⟨hu,hz⟩:=(hT _ _ ht).arr _ _ _ harr
      obtain⟨b,o,h1,h2,h3,h4,h5,h6⟩:=hs.fix hl
      split at e
      ·rename_i a c ha hb
       rw[hA] at e
       refine PS.pureO e (fun ho=>?_) fun _=>Nc h5
       simp only[List.forall_mem_cons,aA,aP,decide_eq_true_eq] at ho
       obtain⟨g0,g1,g2, -⟩:=ho
       rw[fR h1]
       unfold Instr.sliceAt
       simp only[Sem.run_bind,run_underlying hu w,Result.andThen_ok,Instr.sureAddr,Sem.run_pure,amX ha hb g0 g1 g2,cG hz]
       show _=Result.ok ((Sc.ha id off esz a c m).den ρ) w
       rw[sU h1]
       by_cases hc:m=a.toNat
       ·rw[if_pos hc,if_pos hc]
       ·rw[if_neg hc,if_neg hc,Addr.add_mid,Nat.add_assoc]
      ·simp at e
     ·simp at e
   ·
     rename_i s harr
     split at e
     ·rename_i hsc
      split at e
      ·rename_i a c ha hb
       rw[hA] at e hb
       have hu:=(hT _ _ ht).str hsc
       refine PS.pureO e (fun ho=>?_) fun _ _ _=>rfl
       simp only[List.forall_mem_cons,aA,aP,decide_eq_true_eq] at ho
       obtain⟨g0,g1,g2, -⟩:=ho
       show(Instr.sliceAt t (.string s) _ _ none).run P w=_
       unfold Instr.sliceAt Instr.slice
       simp only[Sem.run_bind,run_underlying hu w,Result.andThen_ok,Sem.run_pure,amX (m:=s.size) ha hb g0 g1 g2,Option.isSome_none,Bool.false_eq_true,if_false]
       rfl
      ·simp at e
     ·simp at e
   ·simp at e
  ·rename_i el esz kk hel
   obtain⟨hu,hz,hzz,_⟩:=(hT _ _ ht).elem _ _ _ hel
   have hgo: ∀ (base:Option Addr) (len cap:Nat) (a b:Int),bnd lo 0=some a→bnd hi len=some b→0≤a→a≤b→b≤cap→
     (Instr.sliceAt t (.slice base len cap) (lo.map (Sc.den ρ)) (hi.map (Sc.den ρ)) none).run P w=
      .ok (.slice (if cap=a.toNat then base else base.map (·.add (a.toNat*esz))) (b.toNat - a.toNat) (cap - a.toNat)) w:=by
    intro base len cap a b ha hb h0 h1 h2
    unfold Instr.sliceAt Instr.slice
    simp only[Sem.run_bind,run_underlying hu w,Result.andThen_ok,AP ha hb h0 h1 h2,cG hz,Sem.run_pure]
   split at e
   ·rename_i id
    split at e
    ·rename_i own k l hl
     rw[hA] at e
     obtain⟨hid,⟨base,cap,h2,h3,h4⟩,_⟩:=hs.ok _ _ hl
     split at e
     ·rename_i a b ha hb
      refine PS.pureO e (fun ho=>?_) fun _ ρ' hag=>?_
      ·simp only[List.forall_mem_cons,aA,aP,decide_eq_true_eq] at ho
       obtain⟨g0,g1,g2, -⟩:=ho
       show(Instr.sliceAt t (ρ id) _ _ none).run P w=Result.ok ((Sc.hw id esz a b).den ρ) w
       rw[h2,hgo _ _ _ _ _ ha hb g0 g1 (by omega)]
       simp only[Sc.den,h2]
      ·show(Sc.hw id esz a b).den ρ'=(Sc.hw id esz a b).den ρ
       simp only[Sc.den];rw[hag id hid]
     ·simp at e
    ·simp at e
   ·rename_i id z lo' hi'
    split at e
    ·rename_i own k l hl
     split at e
     ·rename_i hze
      simp only[beq_iff_eq] at hze
      subst hze
      rw[hA] at e
      obtain⟨hid,⟨base,cap,h2,h3,h4⟩,_⟩:=hs.ok _ _ hl
      have hstb: ∀ a b,iK n ρ (.s (.hw id z a b)):=fun a b ρ' hag=>by
       show(Sc.hw id z a b).den ρ'=(Sc.hw id z a b).den ρ
       simp only[Sc.den];rw[hag id hid]
      split at e
      ·rename_i a b ha hb
       split at e
       ·rename_i hlo
        refine PS.pureO e (fun ho=>?_) fun _=>hstb _ _
        simp only[List.forall_mem_cons,aA,aP,decide_eq_true_eq] at ho
        obtain⟨g0,g1,g2,g3,g4, -⟩:=ho
        have ha0:a=0:=by
         unfold lo0 at hlo
         split at hlo
         ·simp[bnd] at ha;omega
         ·simp[bnd,Sc.num] at ha hlo;omega
         ·simp at hlo
        subst ha0
        show(Instr.sliceAt t ((Sc.hw id z lo' hi').den ρ) _ _ none).run P w=Result.ok ((Sc.hw id z lo' (lo'+b)).den ρ) w
        simp only[Sc.den,h2]
        have hb':bnd hi ((hi'.toNat - lo'.toNat:Nat):Int)=some b:=by
         have:((hi'.toNat - lo'.toNat:Nat):Int)=hi' - lo':=by omega
         rw[this];exact hb
        rw[hgo _ _ _ _ _ ha hb' (by omega) (by omega) (by omega)]
        have e1:b.toNat - (0:Int).toNat=(lo'+b).toNat - lo'.toNat:=by omega
        rw[e1]
        simp[Addr.add]
       ·refine PS.pureO e (fun ho=>?_) fun _=>hstb _ _
        simp only[List.forall_mem_cons,aA,aP,decide_eq_true_eq] at ho
        obtain⟨g0,g1,g2,g3,g4,g5, -⟩:=ho
        show(Instr.sliceAt t ((Sc.hw id z lo' hi').den ρ) _ _ none).run P w=Result.ok ((Sc.hw id z (lo'+a) (lo'+b)).den ρ) w
        simp only[Sc.den,h2]
        have hb':bnd hi ((hi'.toNat - lo'.toNat:Nat):Int)=some b:=by
         have:((hi'.toNat - lo'.toNat:Nat):Int)=hi' - lo':=by omega
         rw[this];exact hb
        rw[hgo _ _ _ _ _ ha hb' (by omega) (by omega) (by omega)]
        have e1:b.toNat - a.toNat=(lo'+b).toNat - (lo'+a).toNat:=by omega
        have e2:cap - lo'.toNat - a.toNat=cap - (lo'+a).toNat:=by omega
        have e3:cap - lo'.toNat≠a.toNat:=by omega
        have e4:cap≠lo'.toNat:=by omega
        have e5:cap≠(lo'+a).toNat:=by omega
        rw[e1,e2,if_neg e3,if_neg e4,if_neg e5,Int.toNat_add g0 g2,Nat.add_mul]
        cases base with
        | none=>rfl
        | some a0=>
         obtain⟨b0,o0,rfl,_⟩:=h4
         simp only[Option.map_some,Addr.add_mid,Nat.add_assoc]
      ·simp at e
     ·simp at e
    ·simp at e
   ·simp at e
theorem Ng (hA:K.A=aA) {op:BinOp} {x y:Sc} {p q:Bool×IntKind×Int} {r:FR} {t:Nat} {X Y:Operand} (hx:x.num=some p) (hy:y.num=some q) (e:Ja K op p q=some r) :
  PS P w ρ n r (do eqGuard op t X Y (x.den ρ) (y.den ρ);binOp op t (x.den ρ) (y.den ρ)):=by
 obtain⟨lx,k,a⟩:=p
 obtain⟨ly,k',b⟩:=q
 rw[cI hx,cI hy]
 have hg:(eqGuard op t X Y (.int k a) (.int k' b)).run P w= .ok () w:=by
  unfold eqGuard
  cases op <;> simp
 have hmk: ∀ (lit:Bool) (o:BinOp),(rZ K lit k o a b).den ρ= .int k (aD o k a b):=by
  intro lit o;unfold rZ;rw[hA,Ds];cases lit <;> rfl
 have hst: ∀ (lit:Bool) (o:BinOp),iK n ρ (.s (rZ K lit k o a b)):=by
  intro lit o ρ' _;unfold rZ;cases lit <;> rfl
 unfold Ja at e
 have hcmp: ∀ (o:BinOp),(CV.s (if lx&&ly then .tt (aP o a b) else .bool (K.A.cmp o a b))).den ρ= .bool (aP o a b):=by
  intro o;rw[hA];cases lx&&ly <;> rfl
 have hcst: ∀ (o:BinOp),iK n ρ (.s (if lx&&ly then .tt (aP o a b) else .bool (K.A.cmp o a b))):=by
  intro o ρ' _;cases lx&&ly <;> rfl
 have hbin: ∀ (o:BinOp) (lit:Bool),((CV.s (rZ K lit k o a b)).den ρ)= .int k (aD o k a b):=fun o lit=>hmk lit o
 cases op <;> simp only at e
 case add | sub | mul | and | or | xor | andNot=>
  split at e
  ·rename_i hk
   subst hk
   refine PS.pure e ?_ (hst _ _)
   rw[Sem.run_bind,hg,hbin]
   simp[binOp,Op.intArith,Op.intBits,aD]
  ·simp at e
 case eql | neq | lss | leq | gtr | geq=>
  split at e
  ·rename_i hk
   subst hk
   refine PS.pure e ?_ (hcst _)
   rw[Sem.run_bind,hg,hcmp]
   simp[binOp,Op.intCmp,aP]
  ·simp at e
 case quo | rem=>
  split at e
  ·rename_i hk
   subst hk
   split at e
   ·split at e
    ·rename_i hb
     refine PS.pure e ?_ (hst _ _)
     have hb':b≠0:=by simpa [aP] using hb
     rw[Sem.run_bind,hg,hbin]
     simp[binOp,Op.intDiv,aD,hb']
    ·simp at e
   ·refine PS.pureO e (fun ho=>?_) fun _=>(hst _ _)
    have hb:=ho _ (List.mem_cons_self ..)
    rw[hA] at hb
    have hb':b≠0:=by simpa [aA,aP] using hb
    rw[Sem.run_bind,hg,hbin]
    simp[binOp,Op.intDiv,aD,hb']
  ·simp at e
 case shl | shr=>
  split at e
  ·split at e
   ·rename_i hb
    refine PS.pure e ?_ (hst _ _)
    have hb': ¬ b < 0:=by simp[aP] at hb;omega
    rw[Sem.run_bind,hg,hbin]
    simp[binOp,Op.shift,aD,hb']
   ·simp at e
  ·refine PS.pureO e (fun ho=>?_) fun _=>(hst _ _)
   have hb:=ho _ (List.mem_cons_self ..)
   rw[hA] at hb
   have hb': ¬ b < 0:=by simp[aA,aP] at hb;omega
   rw[Sem.run_bind,hg,hbin]
   simp[binOp,Op.shift,aD,hb']
theorem nW (hA:K.A=aA) {x y z:Sc} (e:Na K x y=some z): ∃ b:Bool,(∀ ρ,z.den ρ= .bool b)∧
  ((∃ k p q,x.den ρ= .int k p∧y.den ρ= .int k q∧b=(p == q))∨(∃ p q:Bool,x.den ρ= .bool p∧y.den ρ= .bool q∧b=(p == q))∨
   (∃ p q:ByteArray,x.den ρ= .string p∧y.den ρ= .string q∧b=(p == q))):=by
 unfold Na at e
 split at e
 all_goals first
  |(split at e
    all_goals first
     |(split at e
       all_goals first
        |(rename_i hk;subst hk;simp only[Option.some.injEq] at e;subst e;exact⟨_,fun _=>rfl, .inl ⟨_,_,_,rfl,rfl,by simp[aP,hA,aA]⟩⟩)
        |(simp at e))
     |(simp only[Option.some.injEq] at e;subst e;exact⟨_,fun _=>rfl, .inr (.inl ⟨_,_,rfl,rfl,by simp[hA,aA]⟩)⟩)
     |(simp at e))
  |(simp only[Option.some.injEq] at e;subst e;exact⟨_,fun _=>rfl, .inr (.inr ⟨_,_,rfl,rfl,by simp[hA,aA]⟩)⟩)
  |(simp at e)
theorem qA (ρ:Rho) (b:Bool):(Sc.tt b).den ρ= .bool b:=rfl
theorem pH (ρ:Rho) (b:Bool):(Sc.bool b).den ρ= .bool b:=rfl
theorem xE (hA:K.A=aA) {x y z:Sc} (e:IE K x y=some z) {p q:Bool} (hx: ∀ ρ,x.den ρ= .bool p) (hy: ∀ ρ,y.den ρ= .bool q): ∀ ρ,z.den ρ= .bool (p&&q):=by
 have ex:=hx fun _=>undef
 have ey:=hy fun _=>undef
 unfold IE at e
 split at e
 ·simp only[Option.some.injEq] at e;subst e
  simp only[qA,Value.bool.injEq] at ex;subst ex
  simpa using hy
 ·simp only[Option.some.injEq] at e;subst e
  simp only[qA,Value.bool.injEq] at ex;subst ex
  intro ρ;simp[qA]
 ·simp only[Option.some.injEq] at e;subst e
  simp only[qA,Value.bool.injEq] at ey;subst ey
  simpa using hx
 ·simp only[Option.some.injEq] at e;subst e
  simp only[qA,Value.bool.injEq] at ey;subst ey
  intro ρ;simp[qA]
 ·simp only[Option.some.injEq] at e;subst e
  simp only[pH,Value.bool.injEq] at ex ey;subst ex ey
  intro ρ;simp[pH,hA,aA]
 ·simp at e
theorem l9 (hA:K.A=aA) {x z:Sc} (e:Bs K x=some z) {p:Bool} (hx: ∀ ρ,x.den ρ= .bool p): ∀ ρ,z.den ρ= .bool (!p):=by
 have ex:=hx fun _=>undef
 unfold Bs at e
 split at e
 ·simp only[Option.some.injEq] at e;subst e
  simp only[qA,Value.bool.injEq] at ex;subst ex
  intro ρ;rfl
 ·simp only[Option.some.injEq] at e;subst e
  simp only[pH,Value.bool.injEq] at ex;subst ex
  intro ρ;simp[pH,hA,aA]
 ·simp at e
theorem IY {x y:Nat} (hx:x < 2 ^ 1024) (hy:y < 2 ^ 1024) (h: ∀ i,i < 32→x / 2 ^ (32*i) % 2 ^ 32=y / 2 ^ (32*i) % 2 ^ 32):x=y:=by
 have key: ∀ k:Nat,k≤32→x % 2 ^ (32*k)=y % 2 ^ (32*k):=by
  intro k
  induction k with
  | zero=>intro _;simp[Nat.mod_one]
  | succ k ih=>
   intro hk
   have h1:=ih (by omega)
   have h2:=h k (by omega)
   rw[show 32*(k+1)=32*k+32 from by omega,Nat.pow_add,Nat.mod_mul,Nat.mod_mul (x:=y),h1,h2]
 have h32:=key 32 (Nat.le_refl _)
 have e1:x % 2 ^ (32*32)=x:=Nat.mod_eq_of_lt (by rw[show 32*32=1024 from rfl];exact hx)
 have e2:y % 2 ^ (32*32)=y:=Nat.mod_eq_of_lt (by rw[show 32*32=1024 from rfl];exact hy)
 rw[e1,e2] at h32
 exact h32
theorem Dg.cells_inj {x y:Dg} (h:x.cells=y.cells):x=y:=by
 have hn:x.n=y.n:=IY x.lt y.lt fun i hi=>by
  have:=congrArg (fun l=>l[i]?) h
  simp[Dg.cells,hi] at this
  exact_mod_cast this
 cases x;cases y;simp at hn;subst hn;rfl
theorem Wd.cells_inj {x y:Wd} (h:x.cells=y.cells):x=y:=by
 simp only[Wd.cells,List.cons.injEq,Value.bool.injEq] at h
 have:=Dg.cells_inj h.2
 cases x;cases y;simp_all
theorem Rt.cells_inj {x y:Rt} (h:x.cells=y.cells):x=y:=by
 obtain⟨h1,h2⟩:=List.append_inj h (by simp)
 have:=Wd.cells_inj h1
 have:=Wd.cells_inj h2
 cases x;cases y;simp_all
theorem Pt.cells_inj {x y:Pt} (h:x.cells=y.cells):x=y:=by
 obtain⟨h1,h2⟩:=List.append_inj h (by simp)
 have:=Rt.cells_inj h1
 have:=Rt.cells_inj h2
 cases x;cases y;simp_all
end
def nM (P:Program) (t:Nat) (xs:List Value):Value:=
 match P.underlying t with
 | some (.struct _) | some (.array _ _)=> .agg xs.toArray
 | _=>xs.headD undef
theorem CI {P:Program} {d t:Nat} {ks:List (Option CK)} (h:VF P d t ks=true) (hn: ∀ fs,P.underlying t≠some (.struct fs)) (hm: ∀ n e,P.underlying t≠some (.array n e)):ks.length=1:=by
 cases d with
 | zero=>simp[VF] at h
 | succ d=>
  unfold VF at h
  split at h
  ·simp at h;rw[h];rfl
  ·split at h
   ·rfl
   ·simp at h
  ·rename_i fs hu;exact absurd hu (hn fs)
  ·rename_i n e hu;exact absurd hu (hm n e)
  ·simp at h
section
variable {P:Program} {w:World}
theorem pP {d e off:Nat} {xs:List Value} (hi:(P.info? e).isSome=true) (hf:VF P d e (((xs.drop off).take (P.cellsOf e)).map ck)=true) :
  (part e xs.toArray off).run P w= .ok (nM P e ((xs.drop off).take (P.cellsOf e))) w:=by
 obtain⟨i,hi⟩:=Option.isSome_iff_exists.1 hi
 have hz:P.cellsOf e=i.size:=by simp[Program.cellsOf,hi]
 cases hu:P.underlying e with
 | none=>cases d <;> simp[VF,hu] at hf
 | some k=>
  have hone:(∀ fs,k≠ .struct fs)→(∀ n e',k≠ .array n e')→(part e xs.toArray off).run P w= .ok (nM P e ((xs.drop off).take (P.cellsOf e))) w:=by
   intro h1 h2
   have hl:=CI hf (fun fs h=>h1 fs (by rw[hu] at h;simpa using h)) (fun n e' h=>h2 n e' (by rw[hu] at h;simpa using h))
   simp only[List.length_map] at hl
   obtain⟨x,hx⟩:=List.length_eq_one_iff.1 hl
   have hoff:xs[off]? =some x:=by
    have:=congrArg (fun l=>l[0]?) hx
    simp only[List.getElem?_take,List.getElem?_drop,Nat.add_zero] at this
    split at this
    ·simpa using this
    ·simp at this
   rw[hx]
   have hag:(isAgg e).run P w= .ok false w:=by
    unfold isAgg
    rw[Sem.run_bind,run_underlying hu w]
    cases k <;> simp_all
   have htv:nM P e [x]=x:=by
    unfold nM
    rw[hu]
    cases k <;> simp_all
   unfold part
   rw[Sem.run_bind,hag]
   simp[hoff,htv]
  cases k
  case struct fs=>
   have hag:(isAgg e).run P w= .ok true w:=by unfold isAgg;rw[Sem.run_bind,run_underlying hu w];simp
   unfold part
   rw[Sem.run_bind,hag]
   simp only[Result.andThen_ok,if_true,Sem.run_bind,Sem.run_pure]
   rw[cG (m:=i.size) (by simp[hi])]
   simp[nM,hu,hz,List.extract_eq_take_drop,List.take_drop]
   try omega
  case array n e'=>
   have hag:(isAgg e).run P w= .ok true w:=by unfold isAgg;rw[Sem.run_bind,run_underlying hu w];simp
   unfold part
   rw[Sem.run_bind,hag]
   simp only[Result.andThen_ok,if_true,Sem.run_bind,Sem.run_pure]
   rw[cG (m:=i.size) (by simp[hi])]
   simp[nM,hu,hz,List.extract_eq_take_drop,List.take_drop]
   try omega
  all_goals exact hone (by intros;simp) (by intros;simp)
def EqT (P:Program) (dd t:Nat) (ks:List (Option CK)):Prop:=
 ∀ (w:World) (xs ys:List Value),xs.map ck=ks→ys.map ck=ks→ ∃ r:Bool,(Op.equalIn dd t (nM P t xs) (nM P t ys)).run P w= .ok r w∧(r=true↔xs=ys)
theorem cU {xs:List Value} {ks:List (Option CK)} (h:xs.map ck=ks) (a b:Nat):((xs.drop a).take b).map ck=(ks.drop a).take b:=by
 rw[List.map_take,List.map_drop,h]
theorem Ah (xs ys:List Value) (o z:Nat):xs.drop o=ys.drop o↔(xs.drop o).take z=(ys.drop o).take z∧xs.drop (o+z)=ys.drop (o+z):=by
 constructor
 ·intro h;exact⟨by rw[h],by rw[← List.drop_drop, ← List.drop_drop,h]⟩
 ·rintro⟨h1,h2⟩
  rw[← List.take_append_drop z (xs.drop o), ← List.take_append_drop z (ys.drop o),h1,List.drop_drop,List.drop_drop,h2]
theorem lO (dd:Nat) {xs ys:List Value} {ks:List (Option CK)} (hx:xs.map ck=ks) (hy:ys.map ck=ks): ∀ (fs:List Field) (o:Nat),
  mR P fs o=some ks.length→
  (∀ f,f∈fs→f.name≠ "_" ∧(P.info? f.type).isSome=true∧(∃ d,VF P d f.type ((ks.drop f.offset).take (P.cellsOf f.type))=true)∧EqT P dd f.type ((ks.drop f.offset).take (P.cellsOf f.type)))→
  ∃ r:Bool,(Op.eqFields dd xs.toArray ys.toArray fs).run P w= .ok r w∧(r=true↔xs.drop o=ys.drop o)
 | [],o,ho,_=>by
  simp only[mR,Option.some.injEq] at ho
  have h1:xs.length=o:=by rw[ho, ← hx];simp
  have h2:ys.length=o:=by rw[ho, ← hy];simp
  refine⟨true,by simp[Op.eqFields],?_⟩
  rw[List.drop_eq_nil_of_le (by omega),List.drop_eq_nil_of_le (by omega)]
  simp
 | f :: fs,o,ho,hall=>by
  simp only[mR] at ho
  split at ho
  ·rename_i hfo
   obtain⟨hn,hi,⟨d,hd⟩,he⟩:=hall f (by simp)
   obtain⟨r',hr',hiff'⟩:=lO dd hx hy fs _ ho (fun g hg=>hall g (by simp[hg]))
   have px:=pP (w:=w) (off:=f.offset) (xs:=xs) hi (by rw[cU hx];exact hd)
   have py:=pP (w:=w) (off:=f.offset) (xs:=ys) hi (by rw[cU hy];exact hd)
   obtain⟨r,hr,hiff⟩:=he w _ _ (cU hx f.offset (P.cellsOf f.type)) (cU hy f.offset (P.cellsOf f.type))
   have hpi:=Ah xs ys o (P.cellsOf f.type)
   rw[hpi]
   subst hfo
   simp only[Op.eqFields,hn,ne_eq,not_false_eq_true,if_true,Sem.run_bind,px,py,hr,Result.andThen_ok]
   cases r
   ·exact⟨false,by simp,by simp;intro e;exact absurd (hiff.2 e) (by simp)⟩
   ·refine⟨r',by simpa using hr',?_⟩
    rw[hiff']
    simp[hiff.1 rfl]
  ·simp at ho
theorem mN (dd:Nat) {e z:Nat} {xs ys:List Value} {ks:List (Option CK)} (hx:xs.map ck=ks) (hy:ys.map ck=ks) (hz:z=P.cellsOf e) (hi:(P.info? e).isSome=true): ∀ (m j:Nat),
  ks.length=(j+m)*z→
  (∀ i,j≤i→i < j+m→(∃ d,VF P d e ((ks.drop (i*z)).take z)=true)∧EqT P dd e ((ks.drop (i*z)).take z))→
  ∃ r:Bool,(Op.eqItems dd e z xs.toArray ys.toArray (List.range' j m)).run P w= .ok r w∧(r=true↔xs.drop (j*z)=ys.drop (j*z))
 | 0,j,hl,_=>by
  have h1:xs.length=j*z:=by rw[Nat.add_zero] at hl;rw[← hl, ← hx];simp
  have h2:ys.length=j*z:=by rw[Nat.add_zero] at hl;rw[← hl, ← hy];simp
  refine⟨true,by simp[Op.eqItems],?_⟩
  rw[List.drop_eq_nil_of_le (by omega),List.drop_eq_nil_of_le (by omega)]
  simp
 | m+1,j,hl,hall=>by
  obtain⟨⟨d,hd⟩,he⟩:=hall j (Nat.le_refl _) (by omega)
  obtain⟨r',hr',hiff'⟩:=mN dd hx hy hz hi m (j+1) (by rw[hl];congr 1;omega) (fun i h1 h2=>hall i (by omega) (by omega))
  subst hz
  have px:=pP (w:=w) (off:=j*P.cellsOf e) (xs:=xs) hi (by rw[cU hx];exact hd)
  have py:=pP (w:=w) (off:=j*P.cellsOf e) (xs:=ys) hi (by rw[cU hy];exact hd)
  obtain⟨r,hr,hiff⟩:=he w _ _ (cU hx (j*P.cellsOf e) (P.cellsOf e)) (cU hy (j*P.cellsOf e) (P.cellsOf e))
  have hpi:=Ah xs ys (j*P.cellsOf e) (P.cellsOf e)
  rw[hpi]
  simp only[List.range'_succ,Op.eqItems,Sem.run_bind,px,py,hr,Result.andThen_ok]
  rw[show(j+1)*P.cellsOf e=j*P.cellsOf e+P.cellsOf e from by rw[Nat.add_mul];omega] at hiff'
  cases r
  ·exact⟨false,by simp,by simp;intro e;exact absurd (hiff.2 e) (by simp)⟩
  ·refine⟨r',by simpa using hr',?_⟩
   rw[hiff']
   simp[hiff.1 rfl]
theorem qE (c:Nat): ∀ (d t:Nat) (ks:List (Option CK)),VF P d t ks=true→EqT P (c+d) t ks
 | 0,_,_,h=>by simp[VF] at h
 | d+1,t,ks,h=>by
  intro w xs ys hx hy
  unfold VF at h
  split at h
  ·rename_i hu
   simp only[beq_iff_eq] at h
   subst h
   cases xs with
   | nil=>simp at hx
   | cons x r=>
    cases ys with
    | nil=>simp at hy
    | cons y q=>
     simp only[List.map_cons,List.cons.injEq,List.map_eq_nil_iff] at hx hy
     obtain⟨hx,rfl⟩:=hx
     obtain⟨hy,rfl⟩:=hy
     cases x <;> simp[ck] at hx
     cases y <;> simp[ck] at hy
     rename_i a b
     refine⟨a == b,?_,by simp⟩
     simp only[nM,hu,List.headD_cons]
     exact run_equalIn_bool w (c+d) t a b hu
  ·rename_i k hu
   split at h
   ·rename_i k'
    cases xs with
    | nil=>simp at hx
    | cons x r=>
     cases ys with
     | nil=>simp at hy
     | cons y q=>
      simp only[List.map_cons,List.cons.injEq,List.map_eq_nil_iff] at hx hy
      obtain⟨hx,rfl⟩:=hx
      obtain⟨hy,rfl⟩:=hy
      cases x <;> simp[ck] at hx
      cases y <;> simp[ck] at hy
      rename_i k1 a k2 b
      subst hx hy
      refine⟨a == b,?_,by simp⟩
      simp only[nM,hu,List.headD_cons]
      exact run_equalIn_int w (c+d) t _ _ a b hu
   ·simp at h
  ·rename_i fs hu
   simp only[Bool.and_eq_true,Bool.not_eq_true',beq_iff_eq,List.all_eq_true,bne_iff_ne,ne_eq] at h
   obtain⟨⟨h1,h2⟩,h3⟩:=h
   have hfo:P.fieldsOf t=fs:=by simp[Program.fieldsOf,hu]
   obtain⟨r,hr,hiff⟩:=lO (w:=w) (c+d) hx hy fs.toList 0 h2 (fun f hf=>by
    obtain⟨⟨g1,g2⟩,g3⟩:=h3 f hf
    exact⟨g1,g2,⟨d,g3⟩,qE c d _ _ g3⟩)
   refine⟨r,?_,by simpa using hiff⟩
   simp only[nM,hu]
   rw[show c+(d+1)=c+d+1 from rfl,run_equalIn_struct w (c+d) t _ _ (by rw[hfo];exact hu) h1,hfo]
   exact hr
  ·rename_i n e hu
   simp only[Bool.and_eq_true,beq_iff_eq,List.all_eq_true,List.mem_range] at h
   obtain⟨⟨h1,h2⟩,h3⟩:=h
   obtain⟨i,hi⟩:=Option.isSome_iff_exists.1 h1
   obtain⟨r,hr,hiff⟩:=mN (w:=w) (c+d) (e:=e) hx hy rfl h1 n 0 (by simpa using h2) (fun i _ h=>by
    have g:=h3 i (by omega)
    exact⟨⟨d,g⟩,qE c d _ _ g⟩)
   refine⟨r,?_,by simpa using hiff⟩
   simp only[nM,hu]
   rw[show c+(d+1)=c+d+1 from rfl,run_equalIn_array w (c+d) _ _ hu hi,List.range_eq_range']
   exact hr
  ·simp at h
theorem Dg.cells_ck (x:Dg):x.cells.map ck=List.replicate 32 (some (.int .u32)):=by
 simp[Dg.cells,Function.comp_def,ck,List.map_const']
theorem Wd.cells_ck (x y:Wd):x.cells.map ck=y.cells.map ck:=by
 simp[Wd.cells,Dg.cells_ck,ck]
theorem Rt.cells_ck (x y:Rt):x.cells.map ck=y.cells.map ck:=by
 simp only[Rt.cells,List.map_append];rw[Wd.cells_ck x.N y.N,Wd.cells_ck x.D y.D]
theorem Pt.cells_ck (x y:Pt):x.cells.map ck=y.cells.map ck:=by
 simp only[Pt.cells,List.map_append];rw[Rt.cells_ck x.X y.X,Rt.cells_ck x.Y y.Y]
theorem BL {a b:At} (h:QM a b=true) (ρ ρ':Rho):(a.cells ρ).map ck=(b.cells ρ').map ck:=by
 unfold QM at h
 split at h
 ·rename_i x y
  split at h
  ·rename_i lx k p ly k' q h1 h2
   simp only[beq_iff_eq] at h
   subst h
   simp[At.cells,cI h1,cI h2,ck]
  ·split at h
   ·rename_i h1 h2
    cases x <;> simp[Sc.boo] at h1 <;> cases y <;> simp[Sc.boo] at h2 <;> simp[At.cells,Sc.den,ck]
   ·simp at h
 ·simp[At.cells,Dg.cells_ck]
 ·exact Wd.cells_ck _ _
 ·exact Rt.cells_ck _ _
 ·exact Pt.cells_ck _ _
 ·simp at h
theorem jG (ρ ρ':Rho): ∀ (fuel:Nat) (l z:List At),B3 fuel l z=true→(aI ρ l).map ck=(aI ρ' z).map ck
 | 0,_,_,h=>by simp[B3] at h
 | _+1,[],[],_=>rfl
 | _+1,[],_ :: _,h=>by simp[B3] at h
 | _+1,_ :: _,[],h=>by simp[B3] at h
 | fuel+1,a :: r,b :: q,h=>by
  simp only[B3] at h
  split at h
  ·simp only[Bool.and_eq_true] at h
   simp only[aI,List.map_append]
   rw[BL h.1 ρ ρ',jG ρ ρ' fuel r q h.2]
  ·split at h
   ·split at h
    ·rename_i ex hex
     have:=jG ρ ρ' fuel _ _ h
     rw[this,dQ,At.expand_cells ρ' hex];rfl
    ·simp at h
   ·split at h
    ·rename_i ex hex
     have:=jG ρ ρ' fuel _ _ h
     rw[← this,dQ,At.expand_cells ρ hex];rfl
    ·simp at h
variable {K:Cx}
theorem Cg (p q:ByteArray):(p == q)=true↔p=q:=by
 rw[beq_toListBytes,beq_iff_eq,ByteArray.toList_eq,ByteArray.toList_eq]
 constructor
 ·intro h
  obtain⟨⟨x⟩⟩:=p
  obtain⟨⟨y⟩⟩:=q
  simp at h
  rw[h]
 ·intro h;rw[h]
theorem xK (hA:K.A=aA) {a b:At} {z:Sc} (e:I6 K a b=some z) (ρ:Rho): ∃ r:Bool,(∀ ρ,z.den ρ= .bool r)∧(r=true↔a.cells ρ=b.cells ρ):=by
 unfold I6 at e
 split at e
 ·rename_i x y
  obtain⟨r,h1,h2⟩:=nW (ρ:=ρ) hA e
  refine⟨r,h1,?_⟩
  rcases h2 with ⟨k,p,q,hx,hy,rfl⟩ | ⟨p,q,hx,hy,rfl⟩ | ⟨p,q,hx,hy,rfl⟩ <;> simp[At.cells,hx,hy,Cg]
 ·simp only[Option.some.injEq] at e;subst e
  exact⟨_,fun _=>rfl,by rw[hA];simp[aA,At.cells];exact⟨fun h=>by rw[h],Dg.cells_inj⟩⟩
 ·simp only[Option.some.injEq] at e;subst e
  exact⟨_,fun _=>rfl,by rw[hA];simp[aA,At.cells];exact⟨fun h=>by rw[h],Wd.cells_inj⟩⟩
 ·simp only[Option.some.injEq] at e;subst e
  exact⟨_,fun _=>rfl,by rw[hA];simp[aA,At.cells];exact⟨fun h=>by rw[h],Rt.cells_inj⟩⟩
 ·simp only[Option.some.injEq] at e;subst e
  exact⟨_,fun _=>rfl,by rw[hA];simp[aA,At.cells];exact⟨fun h=>by rw[h],Pt.cells_inj⟩⟩
 ·simp at e
theorem gQ (hA:K.A=aA) (ρ:Rho): ∀ (fuel:Nat) (l m:List At) (z:Sc),qD K fuel l m=some z→ ∃ r:Bool,(∀ ρ,z.den ρ= .bool r)∧(r=true↔aI ρ l=aI ρ m)
 | 0,_,_,_,h=>by simp[qD] at h
 | _+1,[],[],z,h=>by simp[qD] at h;subst h;exact⟨true,fun _=>rfl,by simp⟩
 | _+1,[],_ :: _,_,h=>by simp[qD] at h
 | _+1,_ :: _,[],_,h=>by simp[qD] at h
 | fuel+1,a :: r,b :: q,z,h=>by
  simp only[qD] at h
  split at h
  ·rename_i hsz
   simp only[beq_iff_eq] at hsz
   split at h
   ·rename_i x y hx hy
    obtain⟨p,h1,h2⟩:=xK hA hx ρ
    obtain⟨p',h3,h4⟩:=gQ hA ρ fuel r q y hy
    refine⟨p&&p',xE hA h h1 h3,?_⟩
    simp only[Bool.and_eq_true,h2,h4,aI]
    constructor
    ·rintro⟨e1,e2⟩;rw[e1,e2]
    ·intro e;exact List.append_inj e (by simp[hsz])
   ·simp at h
  ·split at h
   ·split at h
    ·rename_i ex hex
     obtain⟨p,h1,h2⟩:=gQ hA ρ fuel _ _ z h
     refine⟨p,h1,?_⟩
     rw[h2,dQ,At.expand_cells ρ hex];rfl
    ·simp at h
   ·split at h
    ·rename_i ex hex
     obtain⟨p,h1,h2⟩:=gQ hA ρ fuel _ _ z h
     refine⟨p,h1,?_⟩
     rw[h2,dQ,At.expand_cells ρ hex];rfl
    ·simp at h
end
section
variable {P:Program} {K:Cx} {w0:World} {Wr:jH} {ρ:Rho} {h:bT} {n:Ids} {w:World}
theorem nK {z:Sc} {r:Bool} (hz: ∀ ρ,z.den ρ= .bool r):iK n ρ (.s z):=fun ρ' _=>(hz ρ').trans (hz ρ).symm
theorem mO (hT:TOK P K.T) {t:Nat} {a b:Sc} (hok:okB K t a b=true) {r:Bool}
  (hr:(∃ k p q,a.den ρ= .int k p∧b.den ρ= .int k q∧r=(p == q))∨(∃ p q:Bool,a.den ρ= .bool p∧b.den ρ= .bool q∧r=(p == q))∨
   (∃ p q:ByteArray,a.den ρ= .string p∧b.den ρ= .string q∧r=(p == q))) (X Y:Operand) :
  ((do eqGuard .eql t X Y (a.den ρ) (b.den ρ);binOp .eql t (a.den ρ) (b.den ρ):Sem Value).run P w= .ok (.bool r) w)∧
  ((do eqGuard .neq t X Y (a.den ρ) (b.den ρ);binOp .neq t (a.den ρ) (b.den ρ):Sem Value).run P w= .ok (.bool (!r)) w):=by
 unfold okB at hok
 split at hok
 ·rename_i s s'
  have e1:(Sc.str s).den ρ= .string s:=rfl
  have e2:(Sc.str s').den ρ= .string s':=rfl
  rw[e1,e2] at hr ⊢
  rcases hr with ⟨k,p,q,h1,_⟩ | ⟨p,q,h1,_⟩ | ⟨p,q,h1,h2,rfl⟩
  ·cases h1
  ·cases h1
  ·cases h1;cases h2
   constructor <;> simp[eqGuard,binOp,Op.stringOp,bne,beq_toListBytes]
 ·split at hok
  ·rename_i i ht
   split at hok
   ·rename_i p q h1 h2 h3
    obtain⟨l1,p⟩:=p
    obtain⟨l2,q⟩:=q
    have hu:=(hT _ _ ht).bool h1
    rw[nU h2,nU h3] at hr ⊢
    rcases hr with ⟨k,p,q,h4,_⟩ | ⟨p',q',h4,h5,rfl⟩ | ⟨p,q,h4,h5,rfl⟩
    ·cases h4
    ·cases h4;cases h5
     have hb:=run_equalIn_bool (P:=P) w 9999 t p q hu
     constructor <;> simp[eqGuard,binOp,Op.equal,Op.maxDepth,hb]
    ·cases h4
   ·simp at hok
  ·simp at hok
theorem pX (hT:TOK P K.T) {t:Nat} {i:TI} (ht:K.T t=some i) (he:i.eq=true) {l m:List At} (hl:B3 2000 l i.zero.atoms=true) (hm:B3 2000 m i.zero.atoms=true)
  {r:Bool} (hr:r=true↔aI ρ l=aI ρ m) (X Y:Operand) (hrow: ∃ z,i.zero= .g z) (hag:i.agg=true) :
  ((do eqGuard .eql t X Y ((CV.g l).den ρ) ((CV.g m).den ρ);binOp .eql t ((CV.g l).den ρ) ((CV.g m).den ρ):Sem Value).run P w= .ok (.bool r) w)∧
  ((do eqGuard .neq t X Y ((CV.g l).den ρ) ((CV.g m).den ρ);binOp .neq t ((CV.g l).den ρ) ((CV.g m).den ρ):Sem Value).run P w= .ok (.bool (!r)) w):=by
 have ty:=hT _ _ ht
 obtain⟨hf,hg⟩:=ty.eq he
 obtain⟨r',hr',hiff⟩:=qE 9980 20 t _ hf w (aI ρ l) (aI ρ m) (jG ρ _ _ _ _ hl) (jG ρ _ _ _ _ hm)
 have hrr:r=r':=by
  cases r <;> cases r' <;> simp_all
 subst hrr
 have hv: ∀ x:List Value,nM P t x= .agg x.toArray:=by
  intro x
  have h1:=ty.agg
  unfold nM
  cases hu:P.underlying t with
  | none=>simp[hu] at h1
  | some d=>
   simp[hu,hag] at h1
   cases d <;> simp_all
 rw[hv,hv] at hr'
 have hgd: ∀ op,(eqGuard op t X Y (.agg (aI ρ l).toArray) (.agg (aI ρ m).toArray)).run P w= .ok () w:=by
  intro op
  unfold eqGuard
  cases op <;> simp[hg]
 constructor
 ·show(do eqGuard .eql t X Y (.agg (aI ρ l).toArray) (.agg (aI ρ m).toArray);binOp .eql t (.agg (aI ρ l).toArray) (.agg (aI ρ m).toArray):Sem Value).run P w=_
  rw[Sem.run_bind,hgd,Result.andThen_ok,run_eql_struct]
  rw[show(10000:Nat)=9980+20 from rfl,hr'];rfl
 ·show(do eqGuard .neq t X Y (.agg (aI ρ l).toArray) (.agg (aI ρ m).toArray);binOp .neq t (.agg (aI ρ l).toArray) (.agg (aI ρ m).toArray):Sem Value).run P w=_
  rw[Sem.run_bind,hgd,Result.andThen_ok,run_neq_struct]
  rw[show(10000:Nat)=9980+20 from rfl,hr'];rfl
theorem M0 (hA:K.A=aA) (hT:TOK P K.T) {op:BinOp} {t:Nat} {x y:CV} {r:FR} {X Y:Operand} (e:agR K op t x y=some r) :
  PS P w ρ n r (do eqGuard op t X Y (x.den ρ) (y.den ρ);binOp op t (x.den ρ) (y.den ρ)):=by
 unfold agR at e
 split at e
 ·rename_i a b
  split at e
  ·rename_i p q hp hq
   exact Ng hA hp hq e
  ·split at e
   ·simp at e
   ·rename_i hok
    simp only[Bool.not_eq_true',Bool.not_eq_false] at hok
    split at e
    ·split at e
     ·rename_i z hz
      obtain⟨r',h1,h2⟩:=nW (ρ:=ρ) hA hz
      refine PS.pure e ?_ (nK h1)
      have h3:=(mO (w:=w) hT hok h2 X Y).1
      show(do eqGuard .eql t X Y (a.den ρ) (b.den ρ);binOp .eql t (a.den ρ) (b.den ρ):Sem Value).run P w= .ok (z.den ρ) w
      rw[h3,h1]
     ·simp at e
    ·split at e
     ·rename_i z hz
      split at e
      ·rename_i z' hz'
       obtain⟨r',h1,h2⟩:=nW (ρ:=ρ) hA hz
       have h4:=l9 hA hz' h1
       refine PS.pure e ?_ (nK h4)
       have h3:=(mO (w:=w) hT hok h2 X Y).2
       show(do eqGuard .neq t X Y (a.den ρ) (b.den ρ);binOp .neq t (a.den ρ) (b.den ρ):Sem Value).run P w= .ok (z'.den ρ) w
       rw[h3,h4]
      ·simp at e
     ·simp at e
    ·split at e
     ·rename_i p q hpq
      rw[hA] at e
      refine PS.pureO e (fun ho=>?_) fun _ _ _=>rfl
      simp only[List.forall_mem_cons,aA,aP,decide_eq_true_eq] at ho
      obtain⟨g0, -⟩:=ho
      have hle: ¬ (9223372036854775807 < ((p.size:Int)+(q.size:Int))):=by omega
      show(do eqGuard .add t X Y (.string p) (.string q);binOp .add t (.string p) (.string q):Sem Value).run P w= .ok (.string (p++q)) w
      simp[eqGuard,binOp,Op.stringOp,hle]
     ·simp at e
    ·simp at e
 ·rename_i l m
  split at e
  ·rename_i i ht
   split at e
   ·rename_i hc
    simp only[Bool.and_eq_true] at hc
    obtain⟨⟨⟨hc0,hc1⟩,hc2⟩,hc3⟩:=hc
    have hz:=(hT _ _ ht).zagg hc0
    split at e
    ·split at e
     ·rename_i z hzz
      obtain⟨r',h1,h2⟩:=gQ hA ρ _ _ _ _ hzz
      refine PS.pure e ?_ (nK h1)
      rw[(pX (w:=w) hT ht hc1 hc2 hc3 h2 X Y hz hc0).1]
      show _=Result.ok (z.den ρ) w
      rw[h1]
     ·simp at e
    ·split at e
     ·rename_i z hzz
      split at e
      ·rename_i z' hz'
       obtain⟨r',h1,h2⟩:=gQ hA ρ _ _ _ _ hzz
       have h4:=l9 hA hz' h1
       refine PS.pure e ?_ (nK h4)
       rw[(pX (w:=w) hT ht hc1 hc2 hc3 h2 X Y hz hc0).2]
       show _=Result.ok (z'.den ρ) w
       rw[h4]
      ·simp at e
     ·simp at e
    ·simp at e
   ·simp at e
  ·simp at e
 ·simp at e
theorem Ry (hA:K.A=aA) {op:UnOp} {x:Sc} {r:FR} (e:PL K op x=some r):PS P w ρ n r (Op.unary op (x.den ρ)):=by
 unfold PL at e
 split at e
 ·split at e
  ·rename_i z hz
   cases hb:x.boo with
   | none=>cases x <;> simp[Sc.boo] at hb <;> simp[Bs] at hz
   | some p=>
    obtain⟨l,b⟩:=p
    have h1: ∀ ρ,x.den ρ= .bool b:=fun ρ=>nU hb
    have h2:=l9 hA hz h1
    refine PS.pure e ?_ (nK h2)
    rw[h1]
    show _=Result.ok (z.den ρ) w
    rw[h2];rfl
  ·simp at e
 ·exact PS.pure e rfl fun _ _=>rfl
 ·refine PS.pure e ?_ fun _ _=>rfl
  rw[hA];rfl
 ·exact PS.pure e rfl fun _ _=>rfl
 ·refine PS.pure e ?_ fun _ _=>rfl
  rw[hA];rfl
 ·simp at e
theorem IU (hA:K.A=aA) (hT:TOK P K.T) {src dst:Nat} {x:Sc} {r:FR} (e:CC K src dst x=some r):PS P w ρ n r (convert src dst (x.den ρ)):=by
 unfold CC at e
 split at e
 ·simp at e
 ·rename_i j hs
  split at e
  ·rename_i i hd
   have hsu: ∃ d,P.underlying src=some d:=by
    have:=(hT _ _ hs).agg
    cases hu:P.underlying src with
    | none=>simp[hu] at this
    | some d=>exact⟨d,rfl⟩
   obtain⟨d,hsu⟩:=hsu
   split at e
   ·rename_i k k' m hk
    have hdu:=(hT _ _ hd).int _ hk
    refine PS.pure e ?_ fun _ _=>rfl
    show(convert src dst (.int k' m)).run P w= .ok (.int k (k.wrap m)) w
    unfold convert
    rw[Sem.run_bind,run_underlying hsu w]
    simp only[Result.andThen_ok]
    rw[Sem.run_bind,run_underlying hdu w]
    simp only[Result.andThen_ok,Conv.intToInt,Sem.run_pure]
   ·rename_i k k' m hk
    have hdu:=(hT _ _ hd).int _ hk
    refine PS.pure e ?_ fun _ _=>rfl
    rw[hA]
    show(convert src dst (.int k' m)).run P w= .ok (.int k (k.wrap m)) w
    unfold convert
    rw[Sem.run_bind,run_underlying hsu w]
    simp only[Result.andThen_ok]
    rw[Sem.run_bind,run_underlying hdu w]
    simp only[Result.andThen_ok,Conv.intToInt,Sem.run_pure]
   ·simp at e
  ·simp at e
theorem Cv (x j:Nat):x / 2 ^ (32*j) % 2 ^ 32=x % 2 ^ (32*(j+1)) / 2 ^ (32*j):=by
 rw[show 32*(j+1)=32*j+32 from by omega,Nat.pow_add,Nat.mod_mul_right_div_self]
theorem Bo {x y i j:Nat} (h:x % 2 ^ (32*i)=y % 2 ^ (32*i)) (hj:j≤i):x % 2 ^ (32*j)=y % 2 ^ (32*j):=by
 have hd:2 ^ (32*j) ∣2 ^ (32*i):=Nat.pow_dvd_pow 2 (by omega)
 rw[← Nat.mod_mod_of_dvd x hd,h,Nat.mod_mod_of_dvd y hd]
theorem G9 {n i v:Nat} :n - n / 2 ^ (32*i) % 2 ^ 32*2 ^ (32*i)+v*2 ^ (32*i)=2 ^ (32*i)*(2 ^ 32*(n / 2 ^ (32*i) / 2 ^ 32)+v)+n % 2 ^ (32*i):=by
 generalize hp:2 ^ (32*i)=p
 have h1:=Nat.div_add_mod n p
 have h2:=Nat.div_add_mod (n / p) (2 ^ 32)
 generalize n / p / 2 ^ 32=a at *
 generalize n / p % 2 ^ 32=d at *
 generalize n % p=r at *
 rw[← h2] at h1
 have h3:n=p*(2 ^ 32*a)+d*p+r:=by rw[← h1,Nat.mul_add,Nat.mul_comm p d]
 rw[h3,Nat.mul_add,Nat.mul_comm p v]
 omega
theorem Oo {n i v:Nat} (hn:n < 2 ^ 1024) (hi:i < 32) (hv:v < 2 ^ 32):2 ^ (32*i)*(2 ^ 32*(n / 2 ^ (32*i) / 2 ^ 32)+v)+n % 2 ^ (32*i) < 2 ^ 1024:=by
 have hp:0 < 2 ^ (32*i):=Nat.two_pow_pos _
 have hr:n % 2 ^ (32*i) < 2 ^ (32*i):=Nat.mod_lt _ hp
 have hq:n / 2 ^ (32*i) / 2 ^ 32 < 2 ^ (1024 - 32*(i+1)):=by
  rw[Nat.div_div_eq_div_mul, ← Nat.pow_add,Nat.div_lt_iff_lt_mul (Nat.two_pow_pos _), ← Nat.pow_add]
  rw[show 1024 - 32*(i+1)+(32*i+32)=1024 from by omega]
  exact hn
 have e:2 ^ 1024=2 ^ (32*i)*(2 ^ 32*2 ^ (1024 - 32*(i+1))):=by
  rw[← Nat.pow_add, ← Nat.pow_add]
  congr 1
  omega
 rw[e]
 generalize n / 2 ^ (32*i) / 2 ^ 32=a at *
 generalize n % 2 ^ (32*i)=r at *
 generalize 2 ^ (32*i)=p at *
 generalize 2 ^ (1024 - 32*(i+1))=c at *
 have h1:2 ^ 32*a+v+1≤2 ^ 32*c:=by omega
 have h2:=Nat.mul_le_mul_left p h1
 rw[Nat.mul_add,Nat.mul_one] at h2
 omega
theorem Dg.set_n (d:Dg) (i v:Nat) (hi:i < 32) (hv:v < 2 ^ 32):(d.set i v).n=2 ^ (32*i)*(2 ^ 32*(d.n / 2 ^ (32*i) / 2 ^ 32)+v)+d.n % 2 ^ (32*i):=by
 unfold Dg.set Dg.dig
 simp only
 rw[G9,Nat.mod_eq_of_lt (Oo d.lt hi hv)]
theorem Dg.set_dig (d:Dg) (i v j:Nat) (hi:i < 32) (hv:v < 2 ^ 32):(d.set i v).dig j=if j=i then v else d.dig j:=by
 unfold Dg.dig
 rw[Dg.set_n d i v hi hv]
 have hp:0 < 2 ^ (32*i):=Nat.two_pow_pos _
 have hr:d.n % 2 ^ (32*i) < 2 ^ (32*i):=Nat.mod_lt _ hp
 have hdiv:(2 ^ (32*i)*(2 ^ 32*(d.n / 2 ^ (32*i) / 2 ^ 32)+v)+d.n % 2 ^ (32*i)) / 2 ^ (32*i)=2 ^ 32*(d.n / 2 ^ (32*i) / 2 ^ 32)+v:=by
  rw[Nat.mul_add_div hp,Nat.div_eq_of_lt hr,Nat.add_zero]
 split
 ·rename_i he
  subst he
  rw[hdiv,Nat.mul_add_mod,Nat.mod_eq_of_lt hv]
 ·rename_i hne
  by_cases hlt:j < i
  ·rw[Cv,Cv]
   congr 1
   refine Bo (i:=i) ?_ (by omega)
   rw[Nat.mul_add_mod,Nat.mod_mod]
  ·have e:2 ^ (32*j)=2 ^ (32*i)*(2 ^ 32*2 ^ (32*(j - i - 1))):=by
    rw[← Nat.pow_add, ← Nat.pow_add];congr 1;omega
   rw[e, ← Nat.div_div_eq_div_mul,hdiv, ← Nat.div_div_eq_div_mul,Nat.mul_add_div (Nat.two_pow_pos 32),Nat.div_eq_of_lt hv,Nat.add_zero, ← Nat.div_div_eq_div_mul, ← Nat.div_div_eq_div_mul]
theorem Dg.set_cells (d:Dg) (i v:Nat) (hi:i < 32) (hv:v < 2 ^ 32):(d.set i v).cells=d.cells.set i (.int .u32 (v:Nat)):=by
 apply List.ext_getElem?
 intro j
 rw[List.getElem?_set]
 by_cases hj:j < 32
 ·simp only[Dg.cells,List.getElem?_map,List.getElem?_range hj,Option.map_some,Dg.set_dig d i v j hi hv,List.length_map,List.length_range]
  by_cases he:i=j
  ·subst he;simp[hi]
  ·rw[if_neg (fun e=>he e.symm),if_neg he]
 ·rw[List.getElem?_eq_none (by simp;omega),if_neg (by omega),List.getElem?_eq_none (by simp;omega)]
theorem Sc.one (h1: ∀ i,(ρ i).oneCell'=true) {x:Sc} (hx:x≠ .un):(x.den ρ).oneCell'=true:=by
 have ha: ∀ i o,(cF (ρ i) o).oneCell'=true:=fun i o=>by
  have:=h1 i
  unfold cF
  split
  ·rfl
  ·exact this
 cases x with
 | hp id off=>exact ha id off
 | pe id b e i off=>exact ha id _
 | hs id=>exact h1 id
 | hm id=>exact h1 id
 | ve id e i off=>
  have:=h1 id
  simp only[Sc.den]
  split
  ·rfl
  ·exact this
 | hw id e a b=>
  have:=h1 id
  simp only[Sc.den]
  split
  ·rfl
  ·exact this
 | ha id e f a b c=>
  have:=h1 id
  simp only[Sc.den]
  split
  ·rfl
  ·exact this
 | un=>exact absurd rfl hx
 | _=>rfl
theorem uX (h1: ∀ i,(ρ i).oneCell'=true): ∀ {l:List At},jD l=true→ ∀ c,c∈aI ρ l→c.oneCell'=true:=by
 intro l
 induction l with
 | nil=>intro _ c hc;simp[aI] at hc
 | cons a r ih=>
  intro hn c hc
  simp only[aI,List.mem_append] at hc
  unfold jD at hn
  split at hn
  ·simp_all
  ·simp at hn
  ·rename_i a' r' hne heq
   simp only[List.cons.injEq] at heq
   obtain⟨rfl,rfl⟩:=heq
   rcases hc with hc | hc
   ·have hd: ∀ d:Dg, ∀ c,c∈d.cells→c.oneCell'=true:=by
     intro d c hc
     simp only[Dg.cells,List.mem_map] at hc
     obtain⟨i,_,rfl⟩:=hc
     rfl
    have hw: ∀ x:Wd, ∀ c,c∈x.cells→c.oneCell'=true:=by
     intro x c hc
     simp only[Wd.cells,List.mem_cons] at hc
     rcases hc with rfl | hc
     ·rfl
     ·exact hd _ _ hc
    have hr: ∀ x:Rt, ∀ c,c∈x.cells→c.oneCell'=true:=by
     intro x c hc
     simp only[Rt.cells,List.mem_append] at hc
     rcases hc with hc | hc <;> exact hw _ _ hc
    cases a with
    | s x=>
     simp only[At.cells,List.mem_singleton] at hc
     subst hc
     exact Sc.one h1 fun e=>hne (by rw[e])
    | D d=>exact hd _ _ hc
    | W x=>exact hw _ _ hc
    | R x=>exact hr _ _ hc
    | P x=>
     simp only[At.cells,Pt.cells,List.mem_append] at hc
     rcases hc with hc | hc <;> exact hr _ _ hc
   ·exact ih hn c hc
theorem gP (h1: ∀ i,(ρ i).oneCell'=true) {v:CV} (hn:jD v.atoms=true):(v.den ρ).cells=(aI ρ v.atoms).toArray:=by
 cases v with
 | s x=>
  have:=uX h1 hn (x.den ρ) (by simp[CV.atoms,aI,At.cells])
  simp only[CV.den,CV.atoms,aI,At.cells]
  cases hx:x.den ρ <;> simp[hx,Value.oneCell'] at this <;> simp[Value.cells]
 | g l=>rfl
theorem sM (h1: ∀ i,(ρ i).oneCell'=true) (offs:Nat→Option (Nat×Nat)): ∀ (ps:List (Nat×CV)) (l m:List At),rX offs l ps=some m→
  Instr.fill offs (aI ρ l).toArray (ps.map fun p=>(p.1,p.2.den ρ))=some (aI ρ m).toArray
 | [],l,m,h=>by simp only[rX,Option.some.injEq] at h;subst h;rfl
 |(i,v) :: r,l,m,h=>by
  simp only[rX] at h
  split at h
  ·rename_i o z ho
   split at h
   ·rename_i hc
    simp only[Bool.and_eq_true,beq_iff_eq] at hc
    split at h
    ·rename_i l' hl'
     have ih:=sM h1 offs r l' m h
     obtain⟨h2,h3⟩:=cR ρ hl'
     have hcs:=gP h1 hc.2
     simp only[List.map_cons,Instr.fill,ho,hcs]
     rw[if_neg (by simp[hc.1];rw[← hc.1];exact h2)]
     rw[← ih]
     congr 1
     obtain⟨g1,g2⟩:=Great.foldl_set o (aI ρ v.atoms) 0 (aI ρ l).toArray
     apply Array.ext_getElem?
     intro k
     have e1:(((aI ρ v.atoms).toArray.zipIdx.foldl (fun cs x=>cs.setIfInBounds (o+x.2) x.1) (aI ρ l).toArray))=(((aI ρ v.atoms).zipIdx 0).foldl (fun cs (x:Value×Nat)=>cs.setIfInBounds (o+x.2) x.1) (aI ρ l).toArray):=by
      rw[← Array.foldl_toList];simp
     show(((aI ρ v.atoms).toArray.zipIdx.foldl (fun cs x=>cs.setIfInBounds (o+x.2) x.1) (aI ρ l).toArray))[k]? =_
     rw[e1,g2 k,h3]
     simp only[Nat.add_zero,flats_length,List.size_toArray,List.getElem?_toArray]
     split
     ·rename_i hk
      rw[List.getElem?_append_right (by simp;omega),List.getElem?_append_left (by simp;omega)]
      congr 1
      simp;omega
     ·rename_i hk
      by_cases hko:k < o
      ·rw[List.getElem?_append_left (by simp;omega),List.getElem?_take,if_pos hko]
      ·rw[List.getElem?_append_right (by simp;omega),List.getElem?_append_right (by simp;omega),List.getElem?_drop]
       by_cases hkl:k < bO l
       ·congr 1;simp;omega
       ·rw[List.getElem?_eq_none (by simp;omega),List.getElem?_eq_none (by simp;omega)]
    ·simp at h
   ·simp at h
  ·simp at h
theorem qH: ∀ (ps:List (Nat×CV)) (d e:Dg) (ob:List Bool),AX aA d ps=some (ob,e)→(∀ b,b∈ob→b=true)→
  Instr.fill (fun i=>some (i*1,1)) d.cells.toArray (ps.map fun p=>(p.1,p.2.den ρ))=some e.cells.toArray
 | [],d,e,ob,h,_=>by simp only[AX,Option.some.injEq,Prod.mk.injEq] at h;obtain⟨_,rfl⟩:=h;rfl
 |(i, .g _) :: r,d,e,ob,h,_=>by simp[AX] at h
 |(i, .s x) :: r,d,e,ob,h,ho=>by
  simp only[AX] at h
  split at h
  ·rename_i lit z hx
   split at h
   ·rename_i hi
    split at h
    ·rename_i ob' e' hr
     simp only[Option.some.injEq,Prod.mk.injEq] at h
     obtain⟨rfl,rfl⟩:=h
     simp only[List.forall_mem_cons,aA,aP,decide_eq_true_eq] at ho
     obtain⟨g0,g1,ho⟩:=ho
     have ih:=qH r _ _ _ hr ho
     have hz:Value.int .u32 z= .int .u32 (z.toNat:Nat):=by congr 1;omega
     have hv:((CV.s x).den ρ).cells= #[.int .u32 z]:=by show(x.den ρ).cells=_;rw[cI hx];rfl
     simp only[List.map_cons,Instr.fill,hv]
     rw[if_neg (by simp[Dg.cells];omega), ← ih]
     congr 1
     show(d.cells.toArray.setIfInBounds (i*1+0) (.int .u32 z))=(d.set (i:Int).toNat z.toNat).cells.toArray
     rw[show(i:Int).toNat=i from by omega,Dg.set_cells d i z.toNat hi (by omega),hz]
     simp
    ·simp at h
   ·simp at h
  ·simp at h
theorem qG (offs:Nat→Option (Nat×Nat)): ∀ (ps:List (Nat×CV)) (l m:List At),rX offs l ps=some m→kY n ρ l→(∀ p,p∈ps→kY n ρ p.2.atoms)→kY n ρ m
 | [],l,m,h,hl,_=>by simp only[rX,Option.some.injEq] at h;subst h;exact hl
 |(i,v) :: r,l,m,h,hl,hp=>by
  simp only[rX] at h
  split at h
  ·split at h
   ·split at h
    ·rename_i l' hl'
     refine qG offs r l' m h (fun ρ' ha=>?_) fun p hp'=>hp p (List.mem_cons_of_mem _ hp')
     rw[(cR ρ' hl').2,(cR ρ hl').2,hl ρ' ha,hp _ (List.mem_cons_self ..) ρ' ha]
    ·simp at h
   ·simp at h
  ·simp at h
theorem Fo (hA:K.A=aA) (hT:TOK P K.T) (h1: ∀ i,(ρ i).oneCell'=true) {t:Nat} {ps:List (Nat×CV)} {r:FR} (hps: ∀ p,p∈ps→kY n ρ p.2.atoms) (e:xL K t ps=some r) {parts:Array (Nat×Value)} (hpa:parts.toList=ps.map fun p=>(p.1,p.2.den ρ)) :
  PS P w ρ n r (Instr.build t parts):=by
 unfold xL at e
 split at e
 ·rename_i i ht
  have ty:=hT _ _ ht
  split at e
  ·rename_i hnu
   have hz:=ty.zero
   have hag: ∃ it,P.info? t=some it:=by
    have:=ty.size
    cases hq:P.info? t with
    | none=>simp[hq] at this
    | some it=>exact⟨it,rfl⟩
   obtain⟨it,hit⟩:=hag
   simp only[hit,Option.bind_some] at hz
   have hzc:(i.zero.den vC).cells=(aI ρ i.zero.atoms).toArray:=by
    rw[gP (fun _=>rfl) hnu,ty.zst ρ]
   have hzs:kY n ρ i.zero.atoms:=fun ρ' _=>(ty.zst ρ').trans (ty.zst ρ).symm
   have hgo: ∀ (offs:Nat→Option (Nat×Nat)) (l:List At),rX offs i.zero.atoms ps=some l→Instr.fill offs (i.zero.den vC).cells parts.toList=some (aI ρ l).toArray:=by
    intro offs l hl
    rw[hzc,hpa]
    exact sM h1 offs ps _ _ hl
   split at e
   ·rename_i m el esz harr
    split at e
    ·rename_i l hl
     obtain⟨hu,hsz⟩:=ty.arr _ _ _ harr
     cases hie:P.info? el with
     | none=>simp[hie] at hsz
     | some ie=>
      simp only[hie,Option.map_some,Option.some.injEq] at hsz
      refine PS.pure e (run_build w t parts _ ?_) (yT (qG _ _ _ _ hl hzs hps))
      unfold Program.built
      simp only[hit,hu,hz,hie,hsz]
      exact hgo _ _ hl
    ·unfold CE at e
     split at e
     ·rename_i d hzero _
      split at e
      ·rename_i ob e' hw
       obtain⟨hu,hsz⟩:=ty.arr _ _ _ harr
       cases hie:P.info? el with
       | none=>simp[hie] at hsz
       | some ie=>
        simp only[hie,Option.map_some,Option.some.injEq] at hsz
        rw[hA] at hw
        refine PS.pureO e (fun ho=>run_build w t parts _ ?_) fun _ _ _=>rfl
        unfold Program.built
        simp only[hit,hu,hz,hie,hsz]
        rw[hzc,hzero,hpa]
        have:=qH (ρ:=ρ) ps d e' ob hw ho
        simpa [aI,At.cells] using this
      ·simp at e
     ·simp at e
   ·split at e
    ·simp at e
    ·rename_i f fs hfl
     split at e
     ·rename_i l hl
      rcases ty.fields with h0 | ⟨fs',hu,hfs⟩
      ·rw[h0] at hfl;simp at hfl
      ·refine PS.pure e (run_build w t parts _ ?_) (yT (qG _ _ _ _ hl hzs hps))
       unfold Program.built
       simp only[hit,hu,hz,hfs]
       rw[hfl]
       have:=hgo _ _ hl
       simpa using this
     ·simp at e
  ·simp at e
 ·simp at e
end
end Go.Eng
