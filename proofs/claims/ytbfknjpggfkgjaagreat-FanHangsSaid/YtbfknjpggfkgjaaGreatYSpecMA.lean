
import Derived.Test.YtbfknjpggfkgjaaGreatSpecX
import Derived.Test.YtbfknjpggfkgjaaGreatSpecNA
set_option linter.all false
set_option exponentiation.threshold 40000
set_option maxRecDepth 100000
namespace Go.Eng
theorem lD: ∀ l:List Int,iU l=aM l
 | []=>rfl
 | x :: r=>by simp only[iU,aM,lD r]
def iG (n:Nat):Nat:=if n=0 then 0 else n.log2 / 32+1
theorem nA (n:Nat):n < 2 ^ (32*iG n):=by
 unfold iG
 split
 ·rename_i h;subst h;exact Nat.two_pow_pos _
 ·rename_i h
  have h1:=Nat.lt_log2_self (n:=n)
  exact Nat.lt_of_lt_of_le h1 (Nat.pow_le_pow_right (by decide) (by omega))
theorem kH {n k:Nat} (h:n < 2 ^ (32*k)):iG n≤k:=by
 unfold iG
 split
 ·omega
 ·rename_i h0
  have h1:=Nat.log2_self_le h0
  have h2:2 ^ n.log2 < 2 ^ (32*k):=Nat.lt_of_le_of_lt h1 h
  have h3:=(Nat.pow_lt_pow_iff_right (by decide)).1 h2
  omega
theorem qX {n:Nat} :iG n=0↔n=0:=by
 unfold iG
 constructor
 ·intro h;split at h
  ·assumption
  ·omega
 ·intro h;rw[if_pos h]
def bS (n:Nat):List Int:=iM n (iG n)
theorem pN (n:Nat):(bS n).length=iG n:=cD _ _
theorem pM (n:Nat):W32 (bS n):=jK _ _
theorem bL (n:Nat):aM (bS n)=n:=gX _ _ (nA n)
theorem pS {l:List Int} (h:W32 l):tlen l=iG (aM l):=by
 have hr:inR l:=h
 have h1:=iH hr
 rw[lD] at h1
 have h2:=kH h1
 by_cases h0:tlen l=0
 ·omega
 ·have h3:=Dv hr h0
  rw[lD] at h3
  have h4:=nA (aM l)
  have h5:=(Nat.pow_lt_pow_iff_right (a:=2) (by decide)).1 (Nat.lt_of_le_of_lt h3 h4)
  omega
theorem wP {l:List Int} (h:W32 l):l.take (tlen l)=bS (aM l):=by
 refine HA (h.take _) (pM _) ?_ ?_
 ·rw[List.length_take,Nat.min_eq_left (iS l),pN,pS h]
 ·rw[bL, ← lD,nB,lD]
theorem As {l:List Int} (h:W32 l) {n:Nat} (hn:aM l=n):aA.sub l 0 ((tlen l:Nat):Int)=bS n:=by
 subst hn
 show(l.take ((tlen l:Nat):Int).toNat).drop (0:Int).toNat=_
 rw[Int.toNat_natCast]
 exact wP h
def JV (l:List Int):Bool:=aA.all32 l&&(decide (tlen l=l.length)&&decide (l.length≤1000))
structure Mag (l:List Int):Prop where
 w:W32 l
 t:tlen l=l.length
 n:l.length≤1000
theorem aX {l:List Int} :JV l=true↔Mag l:=by
 unfold JV
 rw[Bool.and_eq_true,Bool.and_eq_true,decide_eq_true_eq,decide_eq_true_eq]
 exact⟨fun h=>⟨W32.all h.1,h.2.1,h.2.2⟩,fun h=>⟨h.w.all',h.t,h.n⟩⟩
theorem Mag.eq {l:List Int} (h:Mag l):l=bS (aM l):=by
 have:=wP h.w
 rwa [h.t,List.take_length] at this
theorem Mag.len {l:List Int} (h:Mag l):l.length=iG (aM l):=by rw[← h.t,pS h.w]
theorem Mag.of {n:Nat} (h:iG n≤1000):Mag (bS n):=⟨pM n,by rw[pS (pM n),bL,pN],by rw[pN];exact h⟩
theorem Mag.lt {n k:Nat} (h:n < 2 ^ k) (hk:k≤32000):Mag (bS n):=Mag.of (Nat.le_trans (kH (k:=(k+31) / 32) (Nat.lt_of_lt_of_le h (Nat.pow_le_pow_right (by decide) (by omega)))) (by omega))
theorem Mag.inj {l m:List Int} (hl:Mag l) (hm:Mag m) (h:aM l=aM m):l=m:=by rw[hl.eq,hm.eq,h]
structure SM where
 ok:List Int→Bool
 of:Wd→List Int
 cmp:List Int→List Int→Int
 add:List Int→List Int→List Int
 sub:List Int→List Int→List Int
 mul:List Int→List Int→List Int
 bits:List Int→Int
 shl:List Int→Int→List Int
 dq:List Int→List Int→List Int
 dr:List Int→List Int→List Int
 gcd:List Int→List Int→List Int
 tq:List Int→List Int
 tr:List Int→Int
 text:List Int→ByteArray
 le:List Int→List Int→Bool
 nz:List Int→Bool
 sOK:List Int→Int→Bool
 toI:Wd→Int
 sumS:Bool→List Int→Bool→List Int→Bool
 sumM:Bool→List Int→Bool→List Int→List Int
def aZ:SM where
 ok:=JV
 of w:=bS w.d.n
 cmp l m:=sgn (aM l) (aM m)
 add l m:=bS (aM l+aM m)
 sub l m:=bS (aM l - aM m)
 mul l m:=bS (aM l*aM m)
 bits l:=((bP (aM l):Nat):Int)
 shl l n:=bS (aM l*2 ^ n.toNat)
 dq l m:=bS (aM l / aM m)
 dr l m:=bS (aM l % aM m)
 gcd l m:=bS (Nat.gcd (aM l) (aM m))
 tq l:=bS (aM l / 10)
 tr l:=((aM l % 10:Nat):Int)
 text l:=aA.ofB (Re ⟨false,bX (aM l)⟩)
 le l m:=decide (aM l≤aM m)
 nz l:=decide (aM l≠0)
 sOK l n:=decide (0≤n)&&decide (n≤32000)
 toI w:=if w.d.n < 2 ^ 64 then(if aU w then aD .sub .i64 (aD .sub .i64 0 (IntKind.i64.wrap (aD .sub .u64 (w.d.n:Int) 1))) 1 else IntKind.i64.wrap (w.d.n:Int)) else 0
 sumS x l y m:=if x=y then x else if aM m≤aM l then x else y
 sumM x l y m:=if x=y then bS (aM l+aM m) else if aM m≤aM l then bS (aM l - aM m) else bS (aM m - aM l)
def sgd (b:Bool) (n:Nat):Int:=if b then -(n:Int) else n
theorem oN (b:Bool) (n:Nat):(sgd b n).natAbs=n:=by cases b <;> simp[sgd]
theorem LO (b:Bool) (n:Nat) (h:n < 2 ^ 1024):tld b (bX n)=ofZ (sgd b n):=by
 rw[gG]
 have:(bX n).n=n:=Nat.mod_eq_of_lt h
 rw[this];rfl
theorem SU (w:Wd):aK w=sgd (aU w) w.d.n:=iT w
theorem v8 {n:Nat} :iG n≤32↔n < 2 ^ 1024:=by
 constructor
 ·intro h
  exact Nat.lt_of_lt_of_le (nA n) (Nat.pow_le_pow_right (by decide) (by omega))
 ·intro h
  exact kH (k:=32) h
theorem B7 {x y:Bool} {a b:Nat} :sgd x a+sgd y b=sgd (if x=y then x else if b≤a then x else y) (if x=y then a+b else if b≤a then a - b else b - a):=by
 cases x <;> cases y <;> simp only[sgd,if_true,if_false,Bool.false_eq_true,reduceCtorEq,Bool.true_eq_false] <;> (try split) <;> (try simp only[if_true,if_false,Bool.false_eq_true]) <;> omega
end Go.Eng
