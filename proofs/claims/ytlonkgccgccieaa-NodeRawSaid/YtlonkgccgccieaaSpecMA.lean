
import Derived.Test.YtlonkgccgccieaaCellSA
import Derived.Test.YtlonkgccgccieaaSpecNA
set_option linter.all false
set_option exponentiation.threshold 40000
set_option maxRecDepth 100000
namespace Go.Eng
def tlen:List Int→Nat
 | []=>0
 | x :: r=>if tlen r=0 then(if x=0 then 0 else 1) else tlen r+1
theorem yW: ∀ (l:List Int) (n:Nat),n≤l.length→(∀ i,n≤i→i < l.length→l.getD i 0=0)→(n=0∨l.getD (n - 1) 0≠0)→tlen l=n
 | [],n,h,_,_=>by simp at h;subst h;rfl
 | x :: r,0,_,hz,_=>by
  have ih:=yW r 0 (Nat.zero_le _) (fun i _ h=>by have:=hz (i+1) (Nat.zero_le _) (by simpa using h);simpa using this) (.inl rfl)
  have hx:x=0:=by simpa using hz 0 (Nat.le_refl _) (by simp)
  simp[tlen,ih,hx]
 | x :: r,n+1,h,hz,hn=>by
  have hn':(x :: r).getD n 0≠0:=by rcases hn with hn | hn;omega;simpa using hn
  have ih:=yW r n (by simpa using h) (fun i h1 h2=>by have:=hz (i+1) (by omega) (by simpa using h2);simpa using this) (by
   cases n with
   | zero=>exact .inl rfl
   | succ n=>right;simpa using hn')
  cases n with
  | zero=>
   have hx:x≠0:=by simpa using hn'
   simp[tlen,ih,hx]
  | succ n=>simp[tlen,ih]
theorem iS: ∀ l:List Int,tlen l≤l.length
 | []=>Nat.le_refl _
 | x :: r=>by
  have:=iS r
  simp only[tlen,List.length_cons]
  split
  ·split <;> omega
  ·omega
def inR (l:List Int):Prop:= ∀ x,x∈l→0≤x∧x < 4294967296
def rng (l:List Int):Bool:=l.all fun x=>decide (0≤x)&&decide (x < 4294967296)
theorem Ed {l:List Int} :rng l=true↔inR l:=by
 simp only[rng,inR,List.all_eq_true,Bool.and_eq_true,decide_eq_true_eq]
theorem inR.at {l:List Int} (h:inR l) (i:Nat):0≤l.getD i 0∧l.getD i 0 < 4294967296:=by
 by_cases hi:i < l.length
 ·have:l.getD i 0∈l:=by rw[List.getD_eq_getElem?_getD,List.getElem?_eq_getElem hi];exact List.getElem_mem hi
  exact h _ this
 ·rw[List.getD_eq_getElem?_getD,List.getElem?_eq_none (by omega)];decide
theorem inR.tail {x:Int} {l:List Int} (h:inR (x :: l)):inR l:=fun y hy=>h y (List.mem_cons_of_mem _ hy)
theorem inR.head {x:Int} {l:List Int} (h:inR (x :: l)):0≤x∧x < 4294967296:=h x (List.mem_cons_self ..)
def iU:List Int→Nat
 | []=>0
 | x :: r=>x.toNat+2 ^ 32*iU r
theorem uT: ∀ {l:List Int},inR l→iU l < 2 ^ (32*l.length)
 | [],_=>by simp[iU]
 | x :: r,h=>by
  have ih:=uT h.tail
  have hx:=h.head
  simp only[iU,List.length_cons]
  rw[show 32*(r.length+1)=32+32*r.length from by omega,Nat.pow_add]
  have:x.toNat < 2 ^ 32:=by omega
  have h2:2 ^ 32*(iU r+1)≤2 ^ 32*2 ^ (32*r.length):=Nat.mul_le_mul_left _ ih
  omega
theorem l7: ∀ (l m:List Int),iU (l++m)=iU l+2 ^ (32*l.length)*iU m
 | [],m=>by simp[iU]
 | x :: r,m=>by
  simp only[List.cons_append,iU,l7 r m,List.length_cons]
  rw[show 32*(r.length+1)=32+32*r.length from by omega,Nat.pow_add,Nat.mul_add,Nat.mul_assoc]
  omega
theorem ai0 (l:List Int) (i:Nat) (h:i < l.length):iU (l.take (i+1))=iU (l.take i)+2 ^ (32*i)*(l.getD i 0).toNat:=by
 rw[List.take_succ_eq_append_getElem h,l7,List.length_take,Nat.min_eq_left (by omega)]
 simp[iU,List.getD_eq_getElem?_getD,List.getElem?_eq_getElem h]
theorem wA: ∀ {l:List Int},(∀ i,i < l.length→l.getD i 0=0)→iU l=0
 | [],_=>rfl
 | x :: r,h=>by
  have h0:x=0:=by simpa using h 0 (by simp)
  have:=wA (l:=r) fun i hi=>by simpa using h (i+1) (by simpa using hi)
  simp[iU,h0,this]
theorem nL: ∀ (l:List Int),(∀ i,tlen l≤i→i < l.length→l.getD i 0=0)∧(tlen l=0∨l.getD (tlen l - 1) 0≠0)
 | []=>⟨fun i _ h=>by simp at h, .inl rfl⟩
 | x :: r=>by
  obtain⟨h1,h2⟩:=nL r
  have hz:=iS r
  by_cases h0:tlen r=0
  ·by_cases hx:x=0
   ·have e:tlen (x :: r)=0:=by simp[tlen,h0,hx]
    refine⟨fun i _ hi=>?_, .inl e⟩
    cases i with
    | zero=>simpa using hx
    | succ i=>simpa using h1 i (by omega) (by simpa using hi)
   ·have e:tlen (x :: r)=1:=by simp[tlen,h0,hx]
    refine⟨fun i h hi=>?_, .inr ?_⟩
    ·rw[e] at h
     cases i with
     | zero=>omega
     | succ i=>simpa using h1 i (by omega) (by simpa using hi)
    ·rw[e];simpa using hx
  ·have e:tlen (x :: r)=tlen r+1:=by simp[tlen,h0]
   refine⟨fun i h hi=>?_, .inr ?_⟩
   ·rw[e] at h
    cases i with
    | zero=>omega
    | succ i=>simpa using h1 i (by omega) (by simpa using hi)
   ·rw[e]
    rcases h2 with h2 | h2
    ·omega
    ·rw[show tlen r+1 - 1=(tlen r - 1)+1 from by omega,List.getD_cons_succ];exact h2
theorem nB (l:List Int):iU (l.take (tlen l))=iU l:=by
 have h:=(nL l).1
 have h1:=l7 (l.take (tlen l)) (l.drop (tlen l))
 rw[List.take_append_drop] at h1
 have h2:iU (l.drop (tlen l))=0:=wA fun i hi=>by
  have:=h (tlen l+i) (by omega) (by simp only[List.length_drop] at hi;omega)
  simpa [List.getD_eq_getElem?_getD] using this
 rw[h1,h2];omega
theorem inR.take {l:List Int} (h:inR l) (n:Nat):inR (l.take n):=fun x hx=>h x (List.mem_of_mem_take hx)
theorem inR.drop {l:List Int} (h:inR l) (n:Nat):inR (l.drop n):=fun x hx=>h x (List.mem_of_mem_drop hx)
theorem Dv {l:List Int} (hr:inR l) (h:tlen l≠0):2 ^ (32*(tlen l - 1))≤iU l:=by
 rw[← nB l]
 obtain⟨_,h2⟩:=nL l
 have hl:=iS l
 rcases h2 with h2 | h2
 ·exact absurd h2 h
 ·have e:=ai0 l (tlen l - 1) (by omega)
  rw[show tlen l - 1+1=tlen l from by omega] at e
  rw[e]
  have h3:=hr.at (tlen l - 1)
  have:1≤(l.getD (tlen l - 1) 0).toNat:=by omega
  have:=Nat.mul_le_mul_left (2 ^ (32*(tlen l - 1))) this
  omega
theorem iH {l:List Int} (hr:inR l):iU l < 2 ^ (32*tlen l):=by
 have:=uT (hr.take (tlen l))
 rw[nB,List.length_take,Nat.min_eq_left (iS l)] at this
 exact this
theorem Dg.set_topX (d:Dg) (i v:Nat) (hd:d.n < 2 ^ (32*i)) (hi:i < 32) (hv:v < 2 ^ 32):(d.set i v).n=d.n+2 ^ (32*i)*v:=by
 rw[Dg.set_n d i v hi hv,Nat.div_eq_of_lt hd,Nat.mod_eq_of_lt hd]
 simp;omega
theorem qZ {n k:Nat} (h:n < 2 ^ k) (hk:k≤1024):(bX n).n=n:=Nat.mod_eq_of_lt (v7 h hk)
theorem FV (l:List Int) (hr:inR l) (i:Nat) (hi:i < l.length) (h32:i < 32):(bX (iU (l.take i))).set i (l.getD i 0).toNat=bX (iU (l.take (i+1))):=by
 have h1:=uT (hr.take i)
 have h2:=uT (hr.take (i+1))
 rw[List.length_take,Nat.min_eq_left (by omega)] at h1 h2
 have hw:=hr.at i
 apply Dg.ext'
 rw[Dg.set_topX _ _ _ (by rw[qZ h1 (by omega)];exact h1) h32 (by omega),qZ h1 (by omega),qZ h2 (by omega),ai0 l i hi]
theorem lD: ∀ l:List Int,iU l=aM l
 | []=>rfl
 | x :: r=>by simp only[iU,aM,lD r]
def iG (n:Nat):Nat:=if n=0 then 0 else n.log2 / 32+1
theorem nA (n:Nat):n < 2 ^ (32*iG n):=by
 unfold iG
 split
 ·rename_i h;subst h;exact Nat.two_pow_pos _
 ·rename_i h
  have h1:=Nat.lt_log2_self (n:=n)
  exact Nat.lt_of_lt_of_le h1 (Nat.pow_le_pow_right (by decide) (by omega))
theorem kH {n k:Nat} (h:n < 2 ^ (32*k)):iG n≤k:=by
 unfold iG
 split
 ·omega
 ·rename_i h0
  have h1:=Nat.log2_self_le h0
  have h2:2 ^ n.log2 < 2 ^ (32*k):=Nat.lt_of_le_of_lt h1 h
  have h3:=(Nat.pow_lt_pow_iff_right (by decide)).1 h2
  omega
theorem qX {n:Nat} :iG n=0↔n=0:=by
 unfold iG
 constructor
 ·intro h;split at h
  ·assumption
  ·omega
 ·intro h;rw[if_pos h]
def bS (n:Nat):List Int:=iM n (iG n)
theorem pN (n:Nat):(bS n).length=iG n:=cD _ _
theorem pM (n:Nat):W32 (bS n):=jK _ _
theorem bL (n:Nat):aM (bS n)=n:=gX _ _ (nA n)
theorem pS {l:List Int} (h:W32 l):tlen l=iG (aM l):=by
 have hr:inR l:=h
 have h1:=iH hr
 rw[lD] at h1
 have h2:=kH h1
 by_cases h0:tlen l=0
 ·omega
 ·have h3:=Dv hr h0
  rw[lD] at h3
  have h4:=nA (aM l)
  have h5:=(Nat.pow_lt_pow_iff_right (a:=2) (by decide)).1 (Nat.lt_of_le_of_lt h3 h4)
  omega
theorem wP {l:List Int} (h:W32 l):l.take (tlen l)=bS (aM l):=by
 refine HA (h.take _) (pM _) ?_ ?_
 ·rw[List.length_take,Nat.min_eq_left (iS l),pN,pS h]
 ·rw[bL, ← lD,nB,lD]
theorem As {l:List Int} (h:W32 l) {n:Nat} (hn:aM l=n):aA.sub l 0 ((tlen l:Nat):Int)=bS n:=by
 subst hn
 show(l.take ((tlen l:Nat):Int).toNat).drop (0:Int).toNat=_
 rw[Int.toNat_natCast]
 exact wP h
def JV (l:List Int):Bool:=aA.all32 l&&(decide (tlen l=l.length)&&decide (l.length≤1000))
structure Mag (l:List Int):Prop where
 w:W32 l
 t:tlen l=l.length
 n:l.length≤1000
theorem aX {l:List Int} :JV l=true↔Mag l:=by
 unfold JV
 rw[Bool.and_eq_true,Bool.and_eq_true,decide_eq_true_eq,decide_eq_true_eq]
 exact⟨fun h=>⟨W32.all h.1,h.2.1,h.2.2⟩,fun h=>⟨h.w.all',h.t,h.n⟩⟩
theorem Mag.eq {l:List Int} (h:Mag l):l=bS (aM l):=by
 have:=wP h.w
 rwa [h.t,List.take_length] at this
theorem Mag.len {l:List Int} (h:Mag l):l.length=iG (aM l):=by rw[← h.t,pS h.w]
theorem Mag.of {n:Nat} (h:iG n≤1000):Mag (bS n):=⟨pM n,by rw[pS (pM n),bL,pN],by rw[pN];exact h⟩
theorem Mag.lt {n k:Nat} (h:n < 2 ^ k) (hk:k≤32000):Mag (bS n):=Mag.of (Nat.le_trans (kH (k:=(k+31) / 32) (Nat.lt_of_lt_of_le h (Nat.pow_le_pow_right (by decide) (by omega)))) (by omega))
theorem Mag.inj {l m:List Int} (hl:Mag l) (hm:Mag m) (h:aM l=aM m):l=m:=by rw[hl.eq,hm.eq,h]
structure SM where
 ok:List Int→Bool
 of:Wd→List Int
 cmp:List Int→List Int→Int
 add:List Int→List Int→List Int
 sub:List Int→List Int→List Int
 mul:List Int→List Int→List Int
 bits:List Int→Int
 shl:List Int→Int→List Int
 dq:List Int→List Int→List Int
 dr:List Int→List Int→List Int
 gcd:List Int→List Int→List Int
 tq:List Int→List Int
 tr:List Int→Int
 text:List Int→ByteArray
 le:List Int→List Int→Bool
 nz:List Int→Bool
 sOK:List Int→Int→Bool
 toI:Wd→Int
 sumS:Bool→List Int→Bool→List Int→Bool
 sumM:Bool→List Int→Bool→List Int→List Int
def aZ:SM where
 ok:=JV
 of w:=bS w.d.n
 cmp l m:=sgn (aM l) (aM m)
 add l m:=bS (aM l+aM m)
 sub l m:=bS (aM l - aM m)
 mul l m:=bS (aM l*aM m)
 bits l:=((bP (aM l):Nat):Int)
 shl l n:=bS (aM l*2 ^ n.toNat)
 dq l m:=bS (aM l / aM m)
 dr l m:=bS (aM l % aM m)
 gcd l m:=bS (Nat.gcd (aM l) (aM m))
 tq l:=bS (aM l / 10)
 tr l:=((aM l % 10:Nat):Int)
 text l:=aA.ofB (Re ⟨false,bX (aM l)⟩)
 le l m:=decide (aM l≤aM m)
 nz l:=decide (aM l≠0)
 sOK l n:=decide (0≤n)&&decide (n≤32000)
 toI w:=if w.d.n < 2 ^ 64 then(if aU w then aD .sub .i64 (aD .sub .i64 0 (IntKind.i64.wrap (aD .sub .u64 (w.d.n:Int) 1))) 1 else IntKind.i64.wrap (w.d.n:Int)) else 0
 sumS x l y m:=if x=y then x else if aM m≤aM l then x else y
 sumM x l y m:=if x=y then bS (aM l+aM m) else if aM m≤aM l then bS (aM l - aM m) else bS (aM m - aM l)
def sgd (b:Bool) (n:Nat):Int:=if b then -(n:Int) else n
theorem oN (b:Bool) (n:Nat):(sgd b n).natAbs=n:=by cases b <;> simp[sgd]
theorem LO (b:Bool) (n:Nat) (h:n < 2 ^ 1024):tld b (bX n)=ofZ (sgd b n):=by
 rw[gG]
 have:(bX n).n=n:=Nat.mod_eq_of_lt h
 rw[this];rfl
theorem SU (w:Wd):aK w=sgd (aU w) w.d.n:=iT w
theorem v8 {n:Nat} :iG n≤32↔n < 2 ^ 1024:=by
 constructor
 ·intro h
  exact Nat.lt_of_lt_of_le (nA n) (Nat.pow_le_pow_right (by decide) (by omega))
 ·intro h
  exact kH (k:=32) h
theorem B7 {x y:Bool} {a b:Nat} :sgd x a+sgd y b=sgd (if x=y then x else if b≤a then x else y) (if x=y then a+b else if b≤a then a - b else b - a):=by
 cases x <;> cases y <;> simp only[sgd,if_true,if_false,Bool.false_eq_true,reduceCtorEq,Bool.true_eq_false] <;> (try split) <;> (try simp only[if_true,if_false,Bool.false_eq_true]) <;> omega
end Go.Eng
