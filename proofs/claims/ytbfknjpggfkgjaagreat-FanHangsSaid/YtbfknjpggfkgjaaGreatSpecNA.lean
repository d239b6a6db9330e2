
import Derived.Test.YtbfknjpggfkgjaaGreatCellSA
set_option linter.all false
set_option exponentiation.threshold 3000
set_option maxRecDepth 100000
namespace Go.Eng
def aM:List Int→Nat
 | []=>0
 | v :: r=>v.toNat+2 ^ 32*aM r
def iM (n:Nat):Nat→List Int
 | 0=>[]
 | k+1=>((n % 2 ^ 32:Nat):Int) :: iM (n / 2 ^ 32) k
def W32 (l:List Int):Prop:= ∀ v,v∈l→0≤v∧v < 4294967296
theorem W32.nil:W32 []:=fun v h=>by simp at h
theorem W32.cons {v:Int} {l:List Int} (h1:0≤v∧v < 4294967296) (h2:W32 l):W32 (v :: l):=fun u hu=>by
 simp only[List.mem_cons] at hu
 rcases hu with rfl | hu
 ·exact h1
 ·exact h2 u hu
theorem W32.app {l m:List Int} (h1:W32 l) (h2:W32 m):W32 (l++m):=fun u hu=>by
 rcases List.mem_append.1 hu with h | h
 ·exact h1 u h
 ·exact h2 u h
theorem W32.take {l:List Int} (h:W32 l) (k:Nat):W32 (l.take k):=fun u hu=>h u (List.mem_of_mem_take hu)
theorem W32.drop {l:List Int} (h:W32 l) (k:Nat):W32 (l.drop k):=fun u hu=>h u (List.mem_of_mem_drop hu)
theorem W32.getD {l:List Int} (h:W32 l) (k:Nat):0≤l.getD k 0∧l.getD k 0 < 4294967296:=by
 rw[List.getD]
 cases hk:l[k]? with
 | none=>simp
 | some v=>exact h v (List.mem_of_getElem? hk)
theorem W32.set {l:List Int} (h:W32 l) (k:Nat) {v:Int} (hv:0≤v∧v < 4294967296):W32 (l.set k v):=fun u hu=>by
 rcases List.mem_or_eq_of_mem_set hu with h1 | rfl
 ·exact h u h1
 ·exact hv
theorem W32.all {l:List Int} (h:aA.all32 l=true):W32 l:=fun v hv=>by
 have:=List.all_eq_true.1 h v hv
 simpa using this
theorem W32.all' {l:List Int} (h:W32 l):aA.all32 l=true:=List.all_eq_true.2 fun v hv=>by have:=h v hv;simp[this.1,this.2]
theorem jX (l m:List Int):aM (l++m)=aM l+2 ^ (32*l.length)*aM m:=by
 induction l with
 | nil=>simp[aM]
 | cons v r ih=>
  simp only[List.cons_append,aM,ih,List.length_cons]
  rw[show 32*(r.length+1)=32+32*r.length from by omega,Nat.pow_add,Nat.mul_add,Nat.mul_assoc]
  omega
theorem dU {l:List Int} (h:W32 l):aM l < 2 ^ (32*l.length):=by
 induction l with
 | nil=>simp[aM]
 | cons v r ih=>
  have h1:=ih fun u hu=>h u (List.mem_cons_of_mem _ hu)
  have h2:=h v (List.mem_cons_self ..)
  simp only[aM,List.length_cons]
  rw[show 32*(r.length+1)=32+32*r.length from by omega,Nat.pow_add]
  generalize 2 ^ (32*r.length)=P at h1 ⊢
  omega
theorem lJ (l:List Int) (k:Nat):aM l=aM (l.take k)+2 ^ (32*(l.take k).length)*aM (l.drop k):=by
 rw[← jX,List.take_append_drop]
theorem kS (l:List Int) (v:Int):aM (l++[v])=aM l+2 ^ (32*l.length)*v.toNat:=by
 rw[jX];simp[aM]
theorem cD (n k:Nat):(iM n k).length=k:=by
 induction k generalizing n with
 | zero=>rfl
 | succ k ih=>simp[iM,ih]
theorem jK (n k:Nat):W32 (iM n k):=by
 induction k generalizing n with
 | zero=>exact W32.nil
 | succ k ih=>exact W32.cons (by omega) (ih _)
theorem gX (n k:Nat) (h:n < 2 ^ (32*k)):aM (iM n k)=n:=by
 induction k generalizing n with
 | zero=>simp at h;subst h;rfl
 | succ k ih=>
  have h1:n / 2 ^ 32 < 2 ^ (32*k):=by
   rw[Nat.div_lt_iff_lt_mul (by decide), ← Nat.pow_add]
   rwa [show 32*k+32=32*(k+1) from by omega]
  simp only[iM,aM,ih _ h1]
  omega
theorem mL {l:List Int} (h:W32 l):iM (aM l) l.length=l:=by
 induction l with
 | nil=>rfl
 | cons v r ih=>
  have h2:=h v (List.mem_cons_self ..)
  simp only[aM,List.length_cons,iM]
  have e1:(v.toNat+2 ^ 32*aM r) % 2 ^ 32=v.toNat:=by omega
  have e2:(v.toNat+2 ^ 32*aM r) / 2 ^ 32=aM r:=by omega
  rw[e1,e2,ih fun u hu=>h u (List.mem_cons_of_mem _ hu)]
  congr 1;omega
theorem HA {l m:List Int} (hl:W32 l) (hm:W32 m) (h1:l.length=m.length) (h2:aM l=aM m):l=m:=by
 rw[← mL hl, ← mL hm,h1,h2]
theorem vR (n:Nat): ∀ (k i:Nat),i < k→(iM n k).getD i 0=((n / 2 ^ (32*i) % 2 ^ 32:Nat):Int)
 | 0,i,h=>by omega
 | k+1,0,_=>by simp[iM]
 | k+1,i+1,h=>by
  simp only[iM,List.getD_cons_succ]
  rw[vR (n / 2 ^ 32) k i (by omega),Nat.div_div_eq_div_mul, ← Nat.pow_add,show 32+32*i=32*(i+1) from by omega]
theorem jL {l:List Int} (h:W32 l) {i:Nat} (hi:i < l.length):l.getD i 0=((aM l / 2 ^ (32*i) % 2 ^ 32:Nat):Int):=by
 have:=vR (aM l) l.length i hi
 rwa [mL h] at this
theorem nP {l:List Int} (h:W32 l) (k:Nat) (hk:k≤l.length):aM (l.take k)=aM l % 2 ^ (32*k):=by
 have h1:=lJ l k
 have h2:=dU (h.take k)
 rw[List.length_take,Nat.min_eq_left hk] at h1 h2
 rw[h1,Nat.add_mul_mod_self_left,Nat.mod_eq_of_lt h2]
theorem kO {l:List Int} (h:W32 l) (k:Nat) (hk:k≤l.length):aM (l.drop k)=aM l / 2 ^ (32*k):=by
 have h1:=lJ l k
 have h2:=dU (h.take k)
 rw[List.length_take,Nat.min_eq_left hk] at h1 h2
 rw[h1,Nat.add_mul_div_left _ _ (Nat.two_pow_pos _),Nat.div_eq_of_lt h2,Nat.zero_add]
theorem IZ (d:Dg) (lo hi:Int):aA.digs d lo hi=(List.range (hi.toNat - lo.toNat)).map fun i=>((d.dig (lo.toNat+i):Nat):Int):=rfl
theorem k9 (n:Nat): ∀ k,iM n k=(List.range k).map fun i=>((n / 2 ^ (32*i) % 2 ^ 32:Nat):Int)
 | 0=>rfl
 | k+1=>by
  rw[List.range_succ_eq_map,List.map_cons,List.map_map,iM,k9 (n / 2 ^ 32) k]
  congr 1
  ·simp
  ·apply List.map_congr_left
   intro i _
   simp only[Function.comp]
   rw[Nat.div_div_eq_div_mul, ← Nat.pow_add,show 32+32*i=32*Nat.succ i from by omega]
theorem qB (d:Dg) (k:Int):aA.digs d 0 k=iM d.n k.toNat:=by
 rw[IZ,k9]
 simp[Dg.dig]
theorem Lg {α:Type} (a p q:List α) (x v:α):(a++(p++x :: q)).set (a.length+p.length) v=a++(p++v :: q):=by
 rw[List.set_append_right _ _ (by omega),show a.length+p.length - a.length=p.length from by omega,List.set_append_right _ _ (by omega),Nat.sub_self]
 rfl
theorem uU (s t P:Nat) (hP:0 < P):(s+P*t) % (P*2 ^ 32)=s % P+P*((s / P+t) % 2 ^ 32)∧(s+P*t) / (P*2 ^ 32)=(s / P+t) / 2 ^ 32:=by
 have e1:(s+P*t) % P=s % P:=Nat.add_mul_mod_self_left s P t
 have e2:(s+P*t) / P=s / P+t:=Nat.add_mul_div_left s t hP
 constructor
 ·rw[Nat.mod_mul,e1,e2]
 ·rw[← Nat.div_div_eq_div_mul,e2]
theorem cV (k:Nat):2 ^ (32*(k+1))=2 ^ (32*k)*2 ^ 32:=by rw[← Nat.pow_add];congr 1
theorem Dg.set_top (d:Dg) (i v:Nat) (hi:i < 32) (hv:v < 2 ^ 32) (hd:d.n < 2 ^ (32*i)):(d.set i v).n=d.n+2 ^ (32*i)*v:=by
 rw[Dg.set_n _ _ _ hi hv,Nat.div_eq_of_lt hd,Nat.mod_eq_of_lt hd]
 simp;omega
theorem iP (d:Dg) (i:Nat):d.n % 2 ^ (32*(i+1))=d.n % 2 ^ (32*i)+2 ^ (32*i)*d.dig i:=by
 unfold Dg.dig
 rw[show 32*(i+1)=32*i+32 from by omega,Nat.pow_add,Nat.mod_mul]
theorem lZ (d:Dg):d.n % 2 ^ (32*32)=d.n:=Nat.mod_eq_of_lt d.lt
theorem D5 (d e out:Dg) (k c:Nat) (hk:k < 32) (h1:out.n=(d.n % 2 ^ (32*k)+e.n % 2 ^ (32*k)) % 2 ^ (32*k)) (h2:c=(d.n % 2 ^ (32*k)+e.n % 2 ^ (32*k)) / 2 ^ (32*k)) :
  (out.set k ((d.dig k+e.dig k+c) % 4294967296)).n=(d.n % 2 ^ (32*(k+1))+e.n % 2 ^ (32*(k+1))) % 2 ^ (32*(k+1))∧(d.dig k+e.dig k+c) / 4294967296=(d.n % 2 ^ (32*(k+1))+e.n % 2 ^ (32*(k+1))) / 2 ^ (32*(k+1)):=by
 have hP:=Nat.two_pow_pos (32*k)
 have hlt:out.n < 2 ^ (32*k):=by rw[h1];exact Nat.mod_lt _ hP
 rw[Dg.set_top out k _ hk (by omega) hlt,iP d k,iP e k,cV k,h1,h2]
 generalize 2 ^ (32*k)=P at hP ⊢
 have e1:d.n % P+P*d.dig k+(e.n % P+P*e.dig k)=(d.n % P+e.n % P)+P*(d.dig k+e.dig k):=by rw[Nat.mul_add];omega
 obtain⟨m1,m2⟩:=uU (d.n % P+e.n % P) (d.dig k+e.dig k) P hP
 rw[e1,m1,m2]
 have e2:d.dig k+e.dig k+(d.n % P+e.n % P) / P=(d.n % P+e.n % P) / P+(d.dig k+e.dig k):=by omega
 rw[e2]
 exact⟨rfl,rfl⟩
theorem zF (d e P:Nat) (hP:0 < P):(d % P+e % P) / P≤1:=by
 have h1:=Nat.mod_lt d hP
 have h2:=Nat.mod_lt e hP
 have:(d % P+e % P) / P < 2:=by rw[Nat.div_lt_iff_lt_mul hP];omega
 omega
theorem Dp (d e out:Dg) (k:Nat) (c x:Int) (hk:k < 32) (hc0:0≤c) (hc1:c≤1) (hlt:out.n < 2 ^ (32*k)) (h1:(out.n:Int)=(d.n % 2 ^ (32*k):Nat) - (e.n % 2 ^ (32*k):Nat)+(2 ^ (32*k):Nat)*c) (hx:x=(d.dig k:Nat) - (e.dig k:Nat) - c) :
  ((out.set k (x % 4294967296).toNat).n:Int)=(d.n % 2 ^ (32*(k+1)):Nat) - (e.n % 2 ^ (32*(k+1)):Nat)+(2 ^ (32*(k+1)):Nat)*(if x < 0 then 1 else 0)∧(out.set k (x % 4294967296).toNat).n < 2 ^ (32*(k+1)):=by
 have hd:=fQ d k
 have he:=fQ e k
 have hs:=Dg.set_top out k (x % 4294967296).toNat hk (by omega) hlt
 have hv:(x % 4294967296).toNat < 2 ^ 32:=by omega
 constructor
 ·rw[hs,iP d k,iP e k,cV k]
  have hy:((x % 4294967296).toNat:Int)=x+4294967296*(if x < 0 then 1 else 0):=by split <;> omega
  generalize 2 ^ (32*k)=P at h1 ⊢
  rw[Int.natCast_add,h1,Int.natCast_mul,hy,Int.natCast_add,Int.natCast_add,Int.natCast_mul,Int.natCast_mul,Int.natCast_mul,hx]
  grind
 ·rw[hs,cV]
  generalize 2 ^ (32*k)=P at hlt ⊢
  have:P*(x % 4294967296).toNat≤P*(2 ^ 32 - 1):=Nat.mul_le_mul_left _ (by omega)
  rw[Nat.mul_sub] at this
  have h3:P*1≤P*2 ^ 32:=Nat.mul_le_mul_left _ (by decide)
  omega
def ofZ (z:Int):Wd:=tld (decide (z < 0)) (bX z.natAbs)
def jB (z:Int):Bool:=decide (z.natAbs < 2 ^ 1024)
theorem dV {z:Int} (h:jB z=true):aK (ofZ z)=z:=by
 have h':z.natAbs < 2 ^ 1024:=of_decide_eq_true h
 have h1:(bX z.natAbs).n=z.natAbs:=Nat.mod_eq_of_lt h'
 have e:(decide (z < 0)&&decide (z.natAbs≠0))=decide (z < 0):=by
  by_cases hz:z < 0
  ·have:z.natAbs≠0:=by omega
   simp[this]
  ·simp[hz]
 show(if(decide (z < 0)&&decide ((bX z.natAbs).n≠0))=true then -((bX z.natAbs).n:Int) else((bX z.natAbs).n:Int))=z
 rw[h1,e]
 by_cases hz:z < 0
 ·rw[if_pos (decide_eq_true hz)];omega
 ·rw[if_neg (by simpa using hz)];omega
def gE (w:Wd):Bool:= !w.neg||decide (w.d.n≠0)
theorem pO {w:Wd} (h:gE w=true):ofZ (aK w)=w:=by
 obtain⟨b,d⟩:=w
 have h1:=d.lt
 cases b
 ·have:(bX (aK ⟨false,d⟩).natAbs)=d:=Dg.ext' (by show(d.n:Int).natAbs % 2 ^ 1024=d.n;rw[Int.natAbs_natCast];exact Nat.mod_eq_of_lt h1)
  unfold ofZ
  rw[this]
  have:decide (aK ⟨false,d⟩ < 0)=false:=by simp[aK]
  rw[this];rfl
 ·have h2:d.n≠0:=by simpa [gE] using h
  have:(bX (aK ⟨true,d⟩).natAbs)=d:=Dg.ext' (by show(-(d.n:Int)).natAbs % 2 ^ 1024=d.n;rw[Int.natAbs_neg,Int.natAbs_natCast];exact Nat.mod_eq_of_lt h1)
  unfold ofZ
  rw[this]
  have:decide (aK ⟨true,d⟩ < 0)=true:=by simp[aK];omega
  rw[this];simp[tld,h2]
theorem jO (z:Int):gE (ofZ z)=true:=by
 unfold ofZ tld gE
 simp only[Bool.not_and,Bool.or_eq_true,Bool.not_eq_true',decide_eq_true_eq,decide_eq_false_iff_not]
 by_cases h:(bX z.natAbs).n≠0
 ·exact .inr h
 ·exact .inl (.inr h)
theorem CH (w:Wd):jB (aK w)=true:=by
 obtain⟨b,d⟩:=w
 have:=d.lt
 apply decide_eq_true
 cases b <;> simp[aK] <;> exact this
theorem gG (b:Bool) (d:Dg):tld b d=ofZ (if b then -(d.n:Int) else d.n):=by
 have h:=d.lt
 have e:(bX d.n)=d:=Dg.ext' (Nat.mod_eq_of_lt h)
 cases b
 ·simp only[Bool.false_eq_true,if_false]
  unfold ofZ
  rw[Int.natAbs_natCast,e]
  have:decide ((d.n:Int) < 0)=false:=by simp
  rw[this]
 ·simp only[if_true]
  unfold ofZ
  rw[Int.natAbs_neg,Int.natAbs_natCast,e]
  unfold tld
  by_cases h0:d.n=0
  ·simp[h0]
  ·have:decide (-(d.n:Int) < 0)=true:=by simp;omega
   rw[this]
theorem wX (w:Wd):aU w=decide (aK w < 0):=by
 obtain⟨b,d⟩:=w
 cases b
 ·simp[aU,aK]
 ·by_cases h:d.n=0
  ·simp[aU,aK,h]
  ·have:0 < d.n:=by omega
   simp[aU,aK,h,this]
theorem bF (w:Wd):(aK w).natAbs=w.d.n:=by
 obtain⟨b,d⟩:=w
 cases b <;> simp[aK]
theorem iT (w:Wd):aK w=if aU w then -(w.d.n:Int) else w.d.n:=by
 obtain⟨b,d⟩:=w
 cases b
 ·simp[aU,aK]
 ·by_cases h:d.n=0 <;> simp[aU,aK,h]
def jC (u v:List Int):Nat:=min 4294967295 (((u.getD 2 0).toNat*2 ^ 64+(u.getD 1 0).toNat*2 ^ 32+(u.getD 0 0).toNat) / ((v.getD 1 0).toNat*2 ^ 32+(v.getD 0 0).toNat))
def wY (l:List Int) (lo hi:Nat) (m:List Int):List Int:=l.take lo++(m++l.drop hi)
def wZ (l:List Int) (lo hi:Nat):Nat:=aM ((l.drop lo).take (hi - lo))
structure SV where
 adds:Int→Int→Int→Int
 addc:Int→Int→Int→Int
 subs:Int→Int→Int→Int
 subc:Int→Int→Int→Int
 divq:Int→Int→Int→Int
 divr:Int→Int→Int→Int
 lz:Int→Int
 plus:Dg→Dg→Dg
 plusOK:Dg→Dg→Bool
 less:Dg→Dg→Dg
 leD:Dg→Dg→Bool
 byQ:Dg→Int→Dg
 byR:Dg→Int→Int
 shl:List Int→Int→List Int
 guess:List Int→List Int→Int
 guessOK:List Int→List Int→Bool
 takesL:List Int→Int→Int→List Int→Int→List Int
 takesB:List Int→Int→Int→List Int→Int→Bool
 givesL:List Int→Int→Int→List Int→List Int
 divQ:Dg→Dg→Dg
 divR:Dg→Dg→Dg
 two:Dg→Bool
 add:Wd→Wd→Wd
 addOK:Wd→Wd→Bool
 sub:Wd→Wd→Wd
 subOK:Wd→Wd→Bool
 mul:Wd→Wd→Wd
 mulOK:Wd→Wd→Bool
 dmQ:Wd→Wd→Wd
 dmR:Wd→Wd→Wd
 dmOK:Wd→Bool
 gcd:Wd→Wd→Wd
 shift:Wd→Int→Wd
 shiftOK:Wd→Int→Bool
 toInt:Wd→Int
 isInt:Wd→Bool
def pick (b:Bool) (z:Int):Wd:=if b then ofZ z else⟨false,Dg.zero⟩
def Cp (n:Int):Nat:=min n.toNat 1024
def aS:SV where
 adds x y c:=(x+y+c) % 4294967296
 addc x y c:=(x+y+c) / 4294967296
 subs x y c:=(x - y - c) % 4294967296
 subc x y c:=if x - y - c < 0 then 1 else 0
 divq h l d:=(h*4294967296+l) / d
 divr h l d:=(h*4294967296+l) % d
 lz n:=32 - ((bP n.toNat:Nat):Int)
 plus a b:=bX (a.n+b.n)
 plusOK a b:=decide (a.n+b.n < 2 ^ 1024)
 less a b:=⟨a.n - b.n,Nat.lt_of_le_of_lt (Nat.sub_le _ _) a.lt⟩
 leD a b:=decide (a.n≤b.n)
 byQ a d:=⟨a.n / d.toNat,Nat.lt_of_le_of_lt (Nat.div_le_self _ _) a.lt⟩
 byR a d:=((a.n % d.toNat:Nat):Int)
 shl l n:=iM (2 ^ n.toNat*aM l) (l.length+1)
 guess u v:=jC u v
 guessOK u v:=decide (3≤u.length)&&decide (2≤v.length)&&decide (1≤v.getD 1 0)&&decide (u.getD 2 0≤v.getD 1 0)&&aA.all32 u&&aA.all32 v
 takesL l lo hi v q:=wY l lo.toNat hi.toNat (iM ((2 ^ (32*(v.length+1))*2 ^ 64+wZ l lo.toNat hi.toNat - q.toNat*aM v) % 2 ^ (32*(v.length+1))) (v.length+1))
 takesB l lo hi v q:=decide (q.toNat*aM v≤wZ l lo.toNat hi.toNat)
 givesL l lo hi v:=wY l lo.toNat hi.toNat (iM ((wZ l lo.toNat hi.toNat+aM v) % 2 ^ (32*(v.length+1))) (v.length+1))
 divQ a b:=⟨a.n / b.n,Nat.lt_of_le_of_lt (Nat.div_le_self _ _) a.lt⟩
 divR a b:=⟨a.n % b.n,Nat.lt_of_le_of_lt (Nat.mod_le _ _) a.lt⟩
 two a:=decide (2 ^ 32≤a.n)
 add a b:=pick (jB (aK a+aK b)) (aK a+aK b)
 addOK a b:=jB (aK a+aK b)
 sub a b:=pick (jB (aK a - aK b)) (aK a - aK b)
 subOK a b:=jB (aK a - aK b)
 mul a b:=pick (jB (aK a*aK b)) (aK a*aK b)
 mulOK a b:=jB (aK a*aK b)
 dmQ a b:=pick (decide (aK b≠0)) ((aK a).tdiv (aK b))
 dmR a b:=pick (decide (aK b≠0)) ((aK a).tmod (aK b))
 dmOK b:=decide (aK b≠0)
 gcd a b:=ofZ (Int.gcd (aK a) (aK b))
 shift a n:=pick (jB (aK a*2 ^ Cp n)) (aK a*2 ^ Cp n)
 shiftOK a n:=jB (aK a*2 ^ Cp n)
 toInt a:=if -9223372036854775808≤aK a∧aK a < 9223372036854775808 then aK a else 0
 isInt a:=decide (-9223372036854775808≤aK a)&&decide (aK a < 9223372036854775808)
theorem Oe {z:Int} :pick (jB z) z=if jB z then ofZ z else⟨false,Dg.zero⟩:=rfl
theorem An (a b:Nat):decide (sgn a b ≥ 0)=decide (b≤a):=by
 have h:(sgn a b ≥ 0)↔b≤a:=by
  unfold sgn
  constructor
  ·intro h;split at h
   ·exact absurd h (by decide)
   ·omega
  ·intro h;rw[if_neg (by omega)];split
   ·decide
   ·decide
 exact decide_eq_decide.2 h
theorem H2 {a b:Dg} (h:a.n+b.n < 2 ^ 1024):(aS.plus a b).n=a.n+b.n:=Nat.mod_eq_of_lt h
theorem MX (x y:Wd):aS.add x y=(if aU x == aU y then(if aS.plusOK x.d y.d then tld (aU x) (aS.plus x.d y.d) else⟨false,Dg.zero⟩) else if decide (sgn x.d.n y.d.n ≥ 0) then tld (aU x) (aS.less x.d y.d) else tld (aU y) (aS.less y.d x.d))∧
  aS.addOK x y=(if aU x == aU y then aS.plusOK x.d y.d else true):=by
 have hx:=x.d.lt
 have hy:=y.d.lt
 show pick (jB (aK x+aK y)) (aK x+aK y)=_∧jB (aK x+aK y)=_
 rw[iT x,iT y]
 generalize aU x=bx
 generalize aU y=b'
 have hp:aS.plusOK x.d y.d=decide (x.d.n+y.d.n < 2 ^ 1024):=rfl
 have hl1:(aS.less x.d y.d).n=x.d.n - y.d.n:=rfl
 have hl2:(aS.less y.d x.d).n=y.d.n - x.d.n:=rfl
 have key: ∀ z:Int,z.natAbs < 2 ^ 1024→jB z=true:=fun z h=>decide_eq_true h
 cases bx <;> cases b' <;> simp only[show(false == true)=false from rfl,show(true == false)=false from rfl,show(true == true)=true from rfl,show(false == false)=true from rfl,if_true,Bool.false_eq_true,if_false,Oe]
 ·have e:jB ((x.d.n:Int)+y.d.n)=aS.plusOK x.d y.d:=by rw[hp];unfold jB;congr 1
  rw[e]
  refine⟨?_,rfl⟩
  split
  ·rename_i h
   rw[hp,decide_eq_true_eq] at h
   rw[gG,H2 h];simp
  ·rfl
 ·have e:jB ((x.d.n:Int)+ -(y.d.n:Int))=true:=key _ (by omega)
  rw[e,if_pos rfl]
  refine⟨?_,rfl⟩
  rw[An]
  split
  ·rename_i h;rw[decide_eq_true_eq] at h;rw[gG,hl1];simp only[Bool.false_eq_true,if_false];congr 1;omega
  ·rename_i h;rw[decide_eq_true_eq] at h;rw[gG,hl2];simp only[if_true];congr 1;omega
 ·have e:jB (-(x.d.n:Int)+y.d.n)=true:=key _ (by omega)
  rw[e,if_pos rfl]
  refine⟨?_,rfl⟩
  rw[An]
  split
  ·rename_i h;rw[decide_eq_true_eq] at h;rw[gG,hl1];simp only[if_true];congr 1;omega
  ·rename_i h;rw[decide_eq_true_eq] at h;rw[gG,hl2];simp only[Bool.false_eq_true,if_false];congr 1;omega
 ·have e:jB (-(x.d.n:Int)+ -(y.d.n:Int))=aS.plusOK x.d y.d:=by rw[hp];unfold jB;congr 1;simp only[eq_iff_iff];omega
  rw[e]
  refine⟨?_,rfl⟩
  split
  ·rename_i h
   rw[hp,decide_eq_true_eq] at h
   rw[gG,H2 h];simp only[if_true];congr 1;omega
  ·rfl
theorem pT (y:Wd):aK (aV.neg y)= -aK y:=by
 obtain⟨b,d⟩:=y
 show aK (tld (!aU ⟨b,d⟩) d)=_
 by_cases h:d.n=0 <;> cases b <;> simp[tld,aU,aK,h]
theorem dA (d:Dg) (k:Nat):bA d≤k↔d.n < 2 ^ (32*k):=by
 by_cases h0:d.n=0
 ·have:bA d=0:=by unfold bA;rw[if_pos h0]
  rw[this,h0]
  exact⟨fun _=>Nat.two_pow_pos _,fun _=>Nat.zero_le _⟩
 ·obtain⟨h1,h2,h3,h4⟩:=i9 d h0
  constructor
  ·intro h;exact Nat.lt_of_lt_of_le h3 (Nat.pow_le_pow_right (by decide) (by omega))
  ·intro h
   have:=(Nat.pow_lt_pow_iff_right (a:=2) (by decide)).1 (Nat.lt_of_le_of_lt h4 h)
   omega
theorem xF (x out:Dg) (d i rem:Nat) (hi:i < 32) (h1:out.n=x.n / 2 ^ (32*(i+1)) / d*2 ^ (32*(i+1))) (h2:rem=x.n / 2 ^ (32*(i+1)) % d) (hd:0 < d) (hd':d < 2 ^ 32) :
  (out.set i ((rem*2 ^ 32+x.dig i) / d)).n=x.n / 2 ^ (32*i) / d*2 ^ (32*i)∧(rem*2 ^ 32+x.dig i) % d=x.n / 2 ^ (32*i) % d∧(rem*2 ^ 32+x.dig i) / d < 2 ^ 32:=by
 have hx:=fQ x i
 have hr:rem < d:=by rw[h2];exact Nat.mod_lt _ hd
 have hq:(rem*2 ^ 32+x.dig i) / d < 2 ^ 32:=by
  rw[Nat.div_lt_iff_lt_mul hd]
  have:(rem+1)*2 ^ 32≤d*2 ^ 32:=Nat.mul_le_mul_right _ (by omega)
  rw[Nat.mul_comm (2 ^ 32) d]
  omega
 have hX:x.n / 2 ^ (32*i)=x.n / 2 ^ (32*(i+1))*2 ^ 32+x.dig i:=by
  unfold Dg.dig
  rw[show 32*(i+1)=32*i+32 from by omega,Nat.pow_add, ← Nat.div_div_eq_div_mul]
  have:=Nat.div_add_mod (x.n / 2 ^ (32*i)) (2 ^ 32)
  rw[Nat.mul_comm] at this
  exact this.symm
 have hs:=Dg.set_n out i _ hi hq
 have hP:=Nat.two_pow_pos (32*i)
 have hX2:x.n / 2 ^ (32*i)=d*(x.n / 2 ^ (32*(i+1)) / d*2 ^ 32)+(rem*2 ^ 32+x.dig i):=by
  rw[hX]
  have:=Nat.div_add_mod (x.n / 2 ^ (32*(i+1))) d
  rw[← h2] at this
  generalize x.n / 2 ^ (32*(i+1)) / d=Q at this ⊢
  rw[← this,Nat.add_mul, ← Nat.mul_assoc]
  omega
 rw[hX2,Nat.mul_add_div hd,Nat.mul_add_mod]
 refine⟨?_,rfl,hq⟩
 rw[hs,h1,cV]
 generalize x.n / (2 ^ (32*i)*2 ^ 32) / d=Q
 have e1:Q*(2 ^ (32*i)*2 ^ 32) / 2 ^ (32*i)=Q*2 ^ 32:=by
  rw[show Q*(2 ^ (32*i)*2 ^ 32)=Q*2 ^ 32*2 ^ (32*i) by rw[Nat.mul_comm (2 ^ (32*i)),Nat.mul_assoc]]
  exact Nat.mul_div_cancel _ hP
 have e2:Q*(2 ^ (32*i)*2 ^ 32) % 2 ^ (32*i)=0:=by
  rw[Nat.mul_comm (2 ^ (32*i)), ← Nat.mul_assoc]
  exact Nat.mul_mod_left _ _
 rw[e1,e2,Nat.mul_div_cancel _ (by decide:0 < 2 ^ 32),Nat.add_zero,Nat.mul_comm (2 ^ 32) Q,Nat.mul_comm (2 ^ (32*i))]
theorem nO (l:List Int) (i:Nat) (v:Int) (hi:i < l.length):aM (l.set i v)+2 ^ (32*i)*(l.getD i 0).toNat=aM l+2 ^ (32*i)*v.toNat:=by
 induction l generalizing i with
 | nil=>simp at hi
 | cons a r ih=>
  cases i with
  | zero=>simp[aM];omega
  | succ i=>
   have:=ih i (by simpa using hi)
   simp only[List.set_cons_succ,aM,List.getD_cons_succ]
   rw[show 32*(i+1)=32+32*i from by omega,Nat.pow_add,Nat.mul_assoc,Nat.mul_assoc]
   omega
theorem kQ (k:Nat):aM (List.replicate k 0)=0:=by
 induction k with
 | zero=>rfl
 | succ k ih=>simp[List.replicate_succ,aM,ih]
theorem FJ {l:List Int} (h:W32 l) {i:Nat} (hi:i < l.length) (hv:aM l < 2 ^ (32*(i+1))):(l.getD i 0).toNat=aM l / 2 ^ (32*i):=by
 rw[jL h hi,Int.toNat_natCast]
 apply Nat.mod_eq_of_lt
 rw[Nat.div_lt_iff_lt_mul (Nat.two_pow_pos _), ← Nat.pow_add]
 rwa [show 32+32*i=32*(i+1) from by omega]
theorem Dd {l:List Int} (h:W32 l) {i:Nat} (hi:i < l.length) (hv:aM l < 2 ^ (32*i)):l.getD i 0=0:=by
 rw[jL h hi,Nat.div_eq_of_lt hv];rfl
theorem H1 (a b s:Nat) (ha:a < 2 ^ s) (hb:2 ^ s ∣b):a||| b=a+b:=by
 obtain⟨c,rfl⟩:=hb
 rw[Nat.or_comm, ← Nat.two_pow_add_eq_or_of_lt ha,Nat.add_comm]
theorem Ap (L:List Int) (i s:Nat) (v w a b:Int) (hW:W32 L) (hi:i+1 < L.length) (hs:s < 32) (hv0:0≤v) (hv:v < 4294967296) (hL:aM L < 2 ^ (32*i+s))
  (hw:w=v*2 ^ s) (ha:a=(((L.getD i 0).toNat||| (w % 4294967296).toNat:Nat):Int)) (hb:b=w / 4294967296) :
  W32 ((L.set i a).set (i+1) b)∧aM ((L.set i a).set (i+1) b)=aM L+2 ^ (32*i)*(v.toNat*2 ^ s)∧aM ((L.set i a).set (i+1) b) < 2 ^ (32*(i+1)+s):=by
 obtain⟨n,rfl⟩: ∃ n:Nat,v=n:=⟨v.toNat,by omega⟩
 have hw':w=((n*2 ^ s:Nat):Int):=by rw[hw];simp
 have hn:n < 2 ^ 32:=by omega
 have hP:=Nat.two_pow_pos (32*i)
 have hps:=Nat.two_pow_pos s
 have ht:(L.getD i 0).toNat=aM L / 2 ^ (32*i):=FJ hW (by omega) (Nat.lt_of_lt_of_le hL (Nat.pow_le_pow_right (by decide) (by omega)))
 have hts:(L.getD i 0).toNat < 2 ^ s:=by
  rw[ht,Nat.div_lt_iff_lt_mul hP, ← Nat.pow_add,Nat.add_comm s];exact hL
 have hdv:2 ^ s ∣(n*2 ^ s) % 2 ^ 32:=(Nat.dvd_mod_iff (Nat.pow_dvd_pow 2 (by omega:s≤32))).2 (Nat.dvd_mul_left _ _)
 have e32:(2:Nat) ^ 32=4294967296:=by decide
 have hm:(w % 4294967296).toNat=(n*2 ^ s) % 2 ^ 32:=by rw[hw',e32];omega
 rw[hm,H1 _ _ s hts hdv] at ha
 have hlt:(L.getD i 0).toNat+(n*2 ^ s) % 2 ^ 32 < 2 ^ 32:=by
  obtain⟨c,hc⟩:=hdv
  have h1:(n*2 ^ s) % 2 ^ 32 < 2 ^ 32:=Nat.mod_lt _ (by decide)
  obtain⟨t,ht2⟩: ∃ t,32=s+t:=⟨32 - s,by omega⟩
  rw[hc] at h1 ⊢
  rw[ht2,Nat.pow_add] at h1 ⊢
  have hc1:c < 2 ^ t:=Nat.lt_of_mul_lt_mul_left h1
  have:2 ^ s*(c+1)≤2 ^ s*2 ^ t:=Nat.mul_le_mul_left _ (by omega)
  rw[Nat.mul_add] at this
  omega
 have hbn:b.toNat=n*2 ^ s / 2 ^ 32:=by rw[hb,hw',e32];omega
 have hbw:b.toNat < 2 ^ 32:=by
  rw[hbn,Nat.div_lt_iff_lt_mul (by decide)]
  exact Nat.mul_lt_mul_of_lt_of_le hn (Nat.pow_le_pow_right (by decide) (by omega)) (by decide)
 have hb0:0≤b:=by rw[hb,hw'];omega
 have w1:W32 (L.set i a):=hW.set i ⟨by rw[ha];omega,by rw[ha];omega⟩
 have w2:W32 ((L.set i a).set (i+1) b):=w1.set (i+1) ⟨hb0,by omega⟩
 have s1:=nO L i a (by omega)
 have s2:=nO (L.set i a) (i+1) b (by simpa using hi)
 have z0:L.getD (i+1) 0=0:=Dd hW hi (Nat.lt_of_lt_of_le hL (Nat.pow_le_pow_right (by decide) (by omega)))
 have z1:(L.set i a).getD (i+1) 0=L.getD (i+1) 0:=by
  rw[List.getD,List.getD,List.getElem?_set_ne (by omega)]
 rw[z1,z0] at s2
 simp only[Int.toNat_zero,Nat.mul_zero,Nat.add_zero] at s2
 have ha':a.toNat=(L.getD i 0).toNat+(n*2 ^ s) % 2 ^ 32:=by rw[ha];exact Int.toNat_natCast _
 rw[ha',Nat.mul_add] at s1
 have s3:aM (L.set i a)=aM L+2 ^ (32*i)*(n*2 ^ s % 2 ^ 32):=by omega
 have val:aM ((L.set i a).set (i+1) b)=aM L+2 ^ (32*i)*(n*2 ^ s):=by
  rw[s2,s3,hbn,cV,Nat.mul_assoc,Nat.add_assoc, ← Nat.mul_add]
  congr 2
  omega
 refine⟨w2,by rw[val,Int.toNat_natCast],?_⟩
 rw[val]
 have h1:n*2 ^ s≤(2 ^ 32 - 1)*2 ^ s:=Nat.mul_le_mul_right _ (by omega)
 rw[Nat.pow_add] at hL
 rw[show 32*(i+1)+s=32*i+(32+s) from by omega,Nat.pow_add 2 (32*i),Nat.pow_add 2 32 s]
 rw[Nat.sub_mul] at h1
 have h2:2 ^ (32*i)*(n*2 ^ s+2 ^ s)≤2 ^ (32*i)*(2 ^ 32*2 ^ s):=Nat.mul_le_mul_left _ (by omega)
 rw[Nat.mul_add] at h2
 omega
structure tP (u v:List Int):Prop where
 lu:3≤u.length
 lv:2≤v.length
 v1:1≤v.getD 1 0
 uv:u.getD 2 0≤v.getD 1 0
 wu:W32 u
 wv:W32 v
theorem vS (n k:Nat):iM n (k+1)=iM n k++[((n / 2 ^ (32*k) % 2 ^ 32:Nat):Int)]:=by
 rw[k9,k9,List.range_succ,List.map_append];rfl
theorem Fy (n t k:Nat):iM (n+2 ^ (32*k)*t) k=iM n k:=by
 induction k generalizing n with
 | zero=>rfl
 | succ k ih=>
  simp only[iM]
  have e:2 ^ (32*(k+1))*t=2 ^ 32*(2 ^ (32*k)*t):=by rw[cV,Nat.mul_comm (2 ^ (32*k)),Nat.mul_assoc]
  rw[e,Nat.add_mul_mod_self_left,Nat.add_mul_div_left _ _ (by decide:0 < 2 ^ 32),ih]
def wst (l:List Int) (lo D i:Nat):List Int:=l.take lo++(iM D i++l.drop (lo+i))
theorem AH (l:List Int) (lo D:Nat):wst l lo D 0=l:=by
 unfold wst
 simp[iM]
theorem E5 (l:List Int) (lo D i:Nat) (h:lo+i≤l.length):(wst l lo D i).length=l.length:=by
 unfold wst
 simp[cD];omega
theorem E3 {l:List Int} (h:W32 l) (lo D i:Nat):W32 (wst l lo D i):=(h.take lo).app ((jK D i).app (h.drop _))
theorem E4 (l:List Int) (lo D i:Nat) (h:lo+i < l.length):(wst l lo D i).getD (lo+i) 0=l.getD (lo+i) 0:=by
 unfold wst
 have h1:(l.take lo).length=lo:=by rw[List.length_take];omega
 rw[List.getD,List.getD,List.getElem?_append_right (by omega),h1,List.getElem?_append_right (by rw[cD];omega),cD,List.getElem?_drop]
 congr 2
 omega
theorem E6 (l:List Int) (lo D i w:Nat) (h:lo+i < l.length) (hD:D < 2 ^ (32*i)) (hw:w < 2 ^ 32):(wst l lo D i).set (lo+i) (w:Int)=wst l lo (D+2 ^ (32*i)*w) (i+1):=by
 unfold wst
 have h1:(l.take lo).length=lo:=by rw[List.length_take];omega
 have h2:l.drop (lo+i)=l.getD (lo+i) 0 :: l.drop (lo+(i+1)):=by
  rw[List.drop_eq_getElem_cons h,List.getD,List.getElem?_eq_getElem h];rfl
 have:=Lg (l.take lo) (iM D i) (l.drop (lo+(i+1))) (l.getD (lo+i) 0) (w:Int)
 rw[h1,cD] at this
 rw[h2,this,vS,Fy,Nat.add_mul_div_left _ _ (Nat.two_pow_pos _),Nat.div_eq_of_lt hD,Nat.zero_add,Nat.mod_eq_of_lt hw]
 simp
theorem AG (l:List Int) (lo hi D:Nat) (h:lo≤hi):wst l lo D (hi - lo)=wY l lo hi (iM D (hi - lo)):=by
 unfold wst wY
 rw[show lo+(hi - lo)=hi by omega]
def lS (l:List Int) (lo i:Nat):Nat:=aM ((l.drop lo).take i)
theorem qV (l:List Int) (lo:Nat):lS l lo 0=0:=by simp[lS,aM]
theorem mY (l:List Int) (lo i:Nat) (h:lo+i < l.length):lS l lo (i+1)=lS l lo i+2 ^ (32*i)*(l.getD (lo+i) 0).toNat:=by
 unfold lS
 have h1:((l.drop lo).take i).length=i:=by rw[List.length_take,List.length_drop];omega
 rw[List.take_add_one,List.getElem?_drop,List.getElem?_eq_getElem h,Option.toList_some,kS,h1]
 congr 2
 rw[List.getD,List.getElem?_eq_getElem h];rfl
theorem uR {l:List Int} (hl:W32 l) (lo i:Nat):lS l lo i < 2 ^ (32*i):=by
 unfold lS
 refine Nat.lt_of_lt_of_le (dU ((hl.drop lo).take i)) (Nat.pow_le_pow_right (by decide) ?_)
 rw[List.length_take];omega
theorem uS (l:List Int) (lo hi:Nat):lS l lo (hi - lo)=wZ l lo hi:=rfl
theorem zX (v:List Int):lS v 0 v.length=aM v:=by unfold lS;rw[List.drop_zero,List.take_length]
theorem Hl (S V D i c x y:Nat) (hD:D=(S+V) % 2 ^ (32*i)) (hc:c=(S+V) / 2 ^ (32*i)) :
  D+2 ^ (32*i)*((x+y+c) % 4294967296)=(S+2 ^ (32*i)*x+(V+2 ^ (32*i)*y)) % 2 ^ (32*(i+1))∧(x+y+c) / 4294967296=(S+2 ^ (32*i)*x+(V+2 ^ (32*i)*y)) / 2 ^ (32*(i+1)):=by
 have hP:=Nat.two_pow_pos (32*i)
 rw[cV]
 generalize 2 ^ (32*i)=P at *
 obtain⟨m1,m2⟩:=uU (S+V) (x+y) P hP
 have e:S+P*x+(V+P*y)=S+V+P*(x+y):=by rw[Nat.mul_add];omega
 rw[e,m1,m2,hD,hc]
 have e2:x+y+(S+V) / P=(S+V) / P+(x+y):=by omega
 rw[e2]
 exact⟨rfl,rfl⟩
theorem Fx (S P D i c x y q:Nat) (b:Int) (hb0:0≤b) (hb1:b≤1) (hx:x < 2 ^ 32) (hD:D < 2 ^ (32*i)) (h1:(D:Int)=S - (P % 2 ^ (32*i):Nat)+(2 ^ (32*i):Nat)*b) (hc:c=P / 2 ^ (32*i))
  (s:Int) (hs:s=x - ((q*y+c) % 4294967296:Nat) - b) :
  ((D+2 ^ (32*i)*(s % 4294967296).toNat:Nat):Int)=(S+2 ^ (32*i)*x:Nat) - ((P+2 ^ (32*i)*(q*y)) % 2 ^ (32*(i+1)):Nat)+(2 ^ (32*(i+1)):Nat)*(if s < 0 then 1 else 0)∧
  D+2 ^ (32*i)*(s % 4294967296).toNat < 2 ^ (32*(i+1))∧(q*y+c) / 4294967296=(P+2 ^ (32*i)*(q*y)) / 2 ^ (32*(i+1)):=by
 have hP:=Nat.two_pow_pos (32*i)
 rw[cV]
 generalize 2 ^ (32*i)=B at *
 obtain⟨m1,m2⟩:=uU P (q*y) B hP
 have e2:q*y+c=P / B+q*y:=by rw[hc];omega
 rw[m1,m2, ← e2]
 generalize q*y+c=w at *
 have hw:w % 2 ^ 32 < 2 ^ 32:=Nat.mod_lt _ (by decide)
 have e32:(2:Nat) ^ 32=4294967296:=by decide
 rw[e32] at *
 have hy:((s % 4294967296).toNat:Int)=s+4294967296*(if s < 0 then 1 else 0):=by split <;> omega
 refine⟨?_,?_,rfl⟩
 ·rw[Int.natCast_add,h1,Int.natCast_mul,hy,Int.natCast_add,Int.natCast_add,Int.natCast_mul,Int.natCast_mul,Int.natCast_mul,hs]
  rw[← hs]
  generalize (if s < 0 then(1:Int) else 0)=z
  rw[hs]
  generalize (w % 4294967296:Nat)=lw
  grind
 ·have hm:(s % 4294967296).toNat+1≤4294967296:=by omega
  have:=Nat.mul_le_mul_left B hm
  rw[Nat.mul_add,Nat.mul_one] at this
  omega
theorem E0 {l:List Int} (h:W32 l) (lo hi:Nat) (h1:lo≤hi) (h2:hi≤l.length):wZ l lo hi=aM l / 2 ^ (32*lo) % 2 ^ (32*(hi - lo)):=by
 unfold wZ
 rw[nP (h.drop lo) _ (by rw[List.length_drop];omega),kO h lo (by omega)]
theorem AE (l:List Int) (lo hi X:Nat) (h1:lo≤hi) (h2:hi≤l.length):(wY l lo hi (iM X (hi - lo))).length=l.length:=by
 unfold wY
 simp[cD];omega
theorem AD {l:List Int} (h:W32 l) (lo hi X k:Nat):W32 (wY l lo hi (iM X k)):=(h.take lo).app ((jK X k).app (h.drop hi))
theorem wU {l:List Int} (h:W32 l) (lo hi X:Nat) (h1:lo≤hi) (h2:hi≤l.length) (hX:X < 2 ^ (32*(hi - lo))) :
  aM (wY l lo hi (iM X (hi - lo)))=aM l % 2 ^ (32*lo)+2 ^ (32*lo)*X+2 ^ (32*hi)*(aM l / 2 ^ (32*hi)):=by
 unfold wY
 rw[jX,jX,gX _ _ hX,nP h lo (by omega),kO h hi h2,List.length_take,cD,Nat.min_eq_left (by omega),Nat.mul_add, ← Nat.mul_assoc, ← Nat.pow_add,Nat.add_assoc]
 congr 3
 rw[show 32*lo+32*(hi - lo)=32*hi by omega]
theorem yV (X:Nat) (h:X < 2 ^ 96):X / 2 ^ 64 % 2 ^ 32*2 ^ 64+X / 2 ^ 32 % 2 ^ 32*2 ^ 32+X % 2 ^ 32=X:=by omega
theorem BT (X:Nat) (h:X < 2 ^ 64):X / 2 ^ 32 % 2 ^ 32*2 ^ 32+X % 2 ^ 32=X:=by omega
theorem P9 (w V P T:Nat) (hP:0 < P) (hV:2 ^ 32*P≤V) (hw:w < V*2 ^ 32) (hT:T=min 4294967295 (w / P / (V / P))):w / V≤T∧T≤w / V+1:=by
 have hV0:0 < V:=Nat.lt_of_lt_of_le (by omega) hV
 have hY:0 < V / P:=Nat.div_pos (Nat.le_trans (by omega) hV) hP
 constructor
 ·have h1:w / V≤4294967295:=by
   have:w / V < 2 ^ 32:=by rw[Nat.div_lt_iff_lt_mul hV0,Nat.mul_comm];exact hw
   omega
  have h2:w / V≤w / P / (V / P):=by
   rw[Nat.le_div_iff_mul_le hY,Nat.le_div_iff_mul_le hP]
   have e1:w / V*(V / P)*P≤w / V*V:=by
    rw[Nat.mul_assoc];exact Nat.mul_le_mul_left _ (Nat.div_mul_le_self _ _)
   exact Nat.le_trans e1 (Nat.div_mul_le_self _ _)
  omega
 ·have hT1:T≤w / P / (V / P):=by omega
  have hT2:T≤4294967295:=by omega
  have h1:T*(V / P)*P≤w:=by
   have:=(Nat.le_div_iff_mul_le hY).1 hT1
   exact(Nat.le_div_iff_mul_le hP).1 this
  have h2:T*V=T*(V / P)*P+T*(V % P):=by
   have:=Nat.div_add_mod V P
   calc T*V=T*(P*(V / P)+V % P):=by rw[this]
    _=_:=by rw[Nat.mul_add,Nat.mul_comm P,Nat.mul_assoc]
  have h3:T*(V % P)≤4294967295*P:=Nat.mul_le_mul hT2 (Nat.le_of_lt (Nat.mod_lt _ hP))
  have h4:T*V < w+V:=by omega
  rcases Nat.eq_zero_or_pos T with h0 | h0
  ·rw[h0];exact Nat.zero_le _
  ·obtain⟨t,rfl⟩: ∃ t,T=t+1:=⟨T - 1,by omega⟩
   have h5:t*V≤w:=by rw[Nat.add_mul] at h4;omega
   have:=(Nat.le_div_iff_mul_le hV0).2 h5
   omega
structure AI (Vl:List Int) (n m:Nat) (V:Nat):Prop where
 m2:2≤m
 mn:m≤n
 n32:n≤32
 wv:W32 Vl
 lv:Vl.length=m+1
 vv:aM Vl=V
 lt:V < 2 ^ (32*m)
 ge:2 ^ (32*(m - 1))≤V
structure DvI (Vl:List Int) (n m V U0:Nat) (i:Int) (M:List Int) (q:Dg):Prop where
 i0: -1≤i
 i1:i≤(n:Int) - m
 lm:M.length=n+1
 wm:W32 M
 sum:aM M+q.n*V=U0
 low:q.n % 2 ^ (32*(i+1).toNat)=0
 top:aM M / 2 ^ (32*(i+1).toNat) < V
theorem BV {Vl:List Int} {n m V:Nat} (h:AI Vl n m V):aM (Vl.take m)=V:=by
 rw[nP h.wv m (by rw[h.lv];omega),h.vv,Nat.mod_eq_of_lt h.lt]
theorem Lf (q:Dg) (i g:Nat) (hi:i < 32) (hg:g < 2 ^ 32) (h:q.n % 2 ^ (32*(i+1))=0):(q.set i g).n=q.n+2 ^ (32*i)*g:=by
 rw[Dg.set_n q i g hi hg]
 have hP:=Nat.two_pow_pos (32*i)
 rw[cV] at h
 generalize 2 ^ (32*i)=P at *
 obtain⟨k,hk⟩:=Nat.dvd_of_mod_eq_zero h
 rw[hk]
 have e1:P*2 ^ 32*k / P=2 ^ 32*k:=by rw[Nat.mul_assoc,Nat.mul_div_cancel_left _ hP]
 have e2:P*2 ^ 32*k % P=0:=by rw[Nat.mul_assoc];exact Nat.mul_mod_right _ _
 rw[e1,e2,Nat.mul_div_cancel_left _ (by decide:0 < 2 ^ 32),Nat.mul_add,Nat.mul_assoc]
 omega
theorem DvI.win {Vl:List Int} {n m V U0:Nat} {i:Int} {M:List Int} {q:Dg} (h:AI Vl n m V) (hI:DvI Vl n m V U0 i M q) (hi:0≤i) :
  wZ M i.toNat (i.toNat+m+1)=aM M / 2 ^ (32*i.toNat)∧aM M / 2 ^ (32*i.toNat) < V*2 ^ 32∧V*2 ^ 32≤2 ^ (32*(m+1))∧aM M / 2 ^ (32*(i.toNat+m+1))=0∧
  aM M / 2 ^ (32*i.toNat) / V≤jC (M.drop (i.toNat+m - 2)) ((Vl.take m).drop (m - 2))∧jC (M.drop (i.toNat+m - 2)) ((Vl.take m).drop (m - 2))≤aM M / 2 ^ (32*i.toNat) / V+1∧
  tP (M.drop (i.toNat+m - 2)) ((Vl.take m).drop (m - 2)):=by
 obtain⟨m2,mn,n32,wv,lv,vv,lt,ge⟩:=h
 obtain⟨i0,i1,lm,wm,sum,low,top⟩:=hI
 have hi1:(i+1).toNat=i.toNat+1:=by omega
 rw[hi1] at top
 have hP:=Nat.two_pow_pos (32*i.toNat)
 have hW:aM (Vl.take m)=V:=by rw[nP wv m (by omega),vv,Nat.mod_eq_of_lt lt]
 have w1:aM M / 2 ^ (32*i.toNat) < V*2 ^ 32:=by
  rw[cV, ← Nat.div_div_eq_div_mul,Nat.div_lt_iff_lt_mul (by decide)] at top
  exact top
 have w2:V*2 ^ 32≤2 ^ (32*(m+1)):=by rw[cV];exact Nat.mul_le_mul_right _ (Nat.le_of_lt lt)
 have w3:aM M < 2 ^ (32*(i.toNat+m+1)):=by
  have:=(Nat.div_lt_iff_lt_mul hP).1 (Nat.lt_of_lt_of_le w1 w2)
  rwa [← Nat.pow_add,show 32*(m+1)+32*i.toNat=32*(i.toNat+m+1) by omega] at this
 have hlen:i.toNat+m+1≤M.length:=by omega
 refine⟨?_,w1,w2,Nat.div_eq_of_lt w3,?_⟩
 ·rw[E0 wm _ _ (by omega) hlen,show i.toNat+m+1 - i.toNat=m+1 by omega]
  exact Nat.mod_eq_of_lt (Nat.lt_of_lt_of_le w1 w2)
 have gu: ∀ k,k≤2→((M.drop (i.toNat+m - 2)).getD k 0).toNat=aM M / 2 ^ (32*(i.toNat+m - 2)) / 2 ^ (32*k) % 2 ^ 32:=fun k hk=>by
  rw[jL (wm.drop _) (by rw[List.length_drop];omega),Int.toNat_natCast,kO wm _ (by omega)]
 have gv: ∀ k,k≤1→(((Vl.take m).drop (m - 2)).getD k 0).toNat=V / 2 ^ (32*(m - 2)) / 2 ^ (32*k) % 2 ^ 32:=fun k hk=>by
  rw[jL ((wv.take m).drop _) (by rw[List.length_drop,List.length_take];omega),Int.toNat_natCast,kO (wv.take m) _ (by rw[List.length_take];omega),hW]
 have eX:aM M / 2 ^ (32*(i.toNat+m - 2))=aM M / 2 ^ (32*i.toNat) / 2 ^ (32*(m - 2)):=by
  rw[Nat.div_div_eq_div_mul, ← Nat.pow_add,show 32*i.toNat+32*(m - 2)=32*(i.toNat+m - 2) by omega]
 have hX:aM M / 2 ^ (32*(i.toNat+m - 2)) < 2 ^ 96:=by
  rw[Nat.div_lt_iff_lt_mul (Nat.two_pow_pos _), ← Nat.pow_add,show 96+32*(i.toNat+m - 2)=32*(i.toNat+m+1) by omega]
  exact w3
 have hY:V / 2 ^ (32*(m - 2)) < 2 ^ 64:=by
  rw[Nat.div_lt_iff_lt_mul (Nat.two_pow_pos _), ← Nat.pow_add,show 64+32*(m - 2)=32*m by omega]
  exact lt
 have hPV:2 ^ 32*2 ^ (32*(m - 2))≤V:=by rw[← Nat.pow_add,show 32+32*(m - 2)=32*(m - 1) by omega];exact ge
 have hYB:2 ^ 32≤V / 2 ^ (32*(m - 2)):=by rw[Nat.le_div_iff_mul_le (Nat.two_pow_pos _)];exact hPV
 have hXY:aM M / 2 ^ (32*(i.toNat+m - 2)) / 2 ^ 64≤V / 2 ^ (32*(m - 2)) / 2 ^ 32:=by
  rw[Nat.le_div_iff_mul_le (by decide),Nat.le_div_iff_mul_le (Nat.two_pow_pos _)]
  have h1:aM M / 2 ^ (32*(i.toNat+m - 2)) / 2 ^ 64=aM M / 2 ^ (32*i.toNat) / 2 ^ 32 / 2 ^ (32*(m - 1)):=by
   rw[Nat.div_div_eq_div_mul,Nat.div_div_eq_div_mul,Nat.div_div_eq_div_mul, ← Nat.pow_add, ← Nat.pow_add, ← Nat.pow_add]
   congr 2;omega
  have h2:aM M / 2 ^ (32*i.toNat) / 2 ^ 32 < V:=by rw[Nat.div_lt_iff_lt_mul (by decide)];exact w1
  rw[h1,Nat.mul_assoc, ← Nat.pow_add,show 32+32*(m - 2)=32*(m - 1) by omega]
  exact Nat.le_trans (Nat.div_mul_le_self _ _) (Nat.le_of_lt h2)
 have eG:jC (M.drop (i.toNat+m - 2)) ((Vl.take m).drop (m - 2))=min 4294967295 (aM M / 2 ^ (32*i.toNat) / 2 ^ (32*(m - 2)) / (V / 2 ^ (32*(m - 2)))):=by
  unfold jC
  rw[gu 2 (by omega),gu 1 (by omega),gu 0 (by omega),gv 1 (by omega),gv 0 (by omega), ← eX]
  generalize aM M / 2 ^ (32*(i.toNat+m - 2))=X at *
  generalize V / 2 ^ (32*(m - 2))=Y at *
  have e1:=yV X hX
  have e2:=BT Y hY
  simp only[Nat.mul_zero,Nat.pow_zero,Nat.div_one,Nat.mul_one]
  rw[show 32*2=64 from rfl,e1,e2]
 obtain⟨k1,k2⟩:=P9 _ V (2 ^ (32*(m - 2))) _ (Nat.two_pow_pos _) hPV w1 eG
 refine⟨k1,k2,?_⟩
 have z1:=((wv.take m).drop (m - 2)).getD 1
 have z2:=(wm.drop (i.toNat+m - 2)).getD 2
 have t1:=gv 1 (by omega)
 have t2:=gu 2 (by omega)
 generalize aM M / 2 ^ (32*(i.toNat+m - 2))=X at *
 generalize V / 2 ^ (32*(m - 2))=Y at *
 rw[show 32*1=32 from rfl] at t1
 rw[show 32*2=64 from rfl] at t2
 exact⟨by rw[List.length_drop];omega,by rw[List.length_drop,List.length_take];omega,by omega,by omega,wm.drop _,(wv.take m).drop _⟩
theorem DvI.next {Vl:List Int} {n m V U0:Nat} {i:Int} {M:List Int} {q:Dg} (h:AI Vl n m V) (hI:DvI Vl n m V U0 i M q) (hi:0≤i) {M':List Int} (hl:M'.length=M.length) (hw:W32 M')
  (hv:aM M'=aM M % 2 ^ (32*i.toNat)+2 ^ (32*i.toNat)*(aM M / 2 ^ (32*i.toNat) - aM M / 2 ^ (32*i.toNat) / V*V)) :
  DvI Vl n m V U0 (i - 1) M' (q.set i.toNat (aM M / 2 ^ (32*i.toNat) / V))∧aM M / 2 ^ (32*i.toNat) / V < 2 ^ 32:=by
 obtain⟨g1,g2,g3,g4, -⟩:=hI.win h hi
 obtain⟨m2,mn,n32,wv,lv,vv,lt,ge⟩:=h
 obtain⟨i0,i1,lm,wm,sum,low,top⟩:=hI
 have hi1:(i+1).toNat=i.toNat+1:=by omega
 have hi2:(i - 1+1).toNat=i.toNat:=by omega
 rw[hi1] at low
 have hP:=Nat.two_pow_pos (32*i.toNat)
 have hV0:0 < V:=Nat.lt_of_lt_of_le (Nat.two_pow_pos _) ge
 have hq:aM M / 2 ^ (32*i.toNat) / V < 2 ^ 32:=by rw[Nat.div_lt_iff_lt_mul hV0,Nat.mul_comm (2 ^ 32) V];exact g2
 have hs:=Lf q i.toNat _ (by omega) hq low
 refine⟨⟨by omega,by omega,by omega,hw,?_,?_,?_⟩,hq⟩
 ·rw[hs,hv, ← sum]
  have e1:=Nat.div_add_mod (aM M) (2 ^ (32*i.toNat))
  have e2:=Nat.div_mul_le_self (aM M / 2 ^ (32*i.toNat)) V
  generalize aM M / 2 ^ (32*i.toNat) / V=c at *
  generalize aM M / 2 ^ (32*i.toNat)=w at *
  generalize 2 ^ (32*i.toNat)=P at *
  rw[Nat.add_mul,Nat.mul_assoc P c V]
  have e3:P*(w - c*V)+P*(c*V)=P*w:=by rw[← Nat.mul_add];congr 1;omega
  omega
 ·rw[hi2,hs]
  rw[cV] at low
  generalize 2 ^ (32*i.toNat)=P at *
  obtain⟨k,hk⟩:=Nat.dvd_of_mod_eq_zero low
  rw[hk,Nat.mul_assoc, ← Nat.mul_add]
  exact Nat.mul_mod_right _ _
 ·rw[hi2,hv]
  generalize aM M / 2 ^ (32*i.toNat)=w at *
  rw[Nat.add_mul_div_left _ _ hP,Nat.div_eq_of_lt (Nat.mod_lt _ hP),Nat.zero_add]
  have:=Nat.mod_lt w hV0
  have e:=Nat.div_add_mod w V
  rw[Nat.mul_comm] at e
  omega
theorem Hv (a b:Nat) (s t:Bool):(if s then -(a:Int) else a).tdiv (if t then -(b:Int) else b)=if(!(s == t)) then -((a / b:Nat):Int) else((a / b:Nat):Int):=by
 cases s <;> cases t <;> simp[Int.neg_tdiv,Int.tdiv_neg,Int.ofNat_tdiv]
theorem Hw (a b:Nat) (s t:Bool):(if s then -(a:Int) else a).tmod (if t then -(b:Int) else b)=if s then -((a % b:Nat):Int) else((a % b:Nat):Int):=by
 cases s <;> cases t <;> simp[Int.neg_tmod,Int.tmod_neg] <;> exact Int.tmod_eq_emod_of_nonneg (Int.natCast_nonneg _)
theorem I1 (x y:Wd) (h:y.d.n≠0):aS.dmQ x y=tld (!(aU x == aU y)) (aS.divQ x.d y.d)∧aS.dmR x y=tld (aU x) (aS.divR x.d y.d)∧aS.dmOK y=true:=by
 have hy:aK y≠0:=by
  have:=bF y
  intro h0;rw[h0] at this;exact h (by simpa using this.symm)
 have hd:decide (aK y≠0)=true:=decide_eq_true hy
 refine⟨?_,?_,hd⟩
 ·show pick (decide (aK y≠0)) ((aK x).tdiv (aK y))=_
  rw[hd,gG,iT x,iT y,Hv];rfl
 ·show pick (decide (aK y≠0)) ((aK x).tmod (aK y))=_
  rw[hd,gG,iT x,iT y,Hw];rfl
theorem Cz (x y:Wd) (h:y.d.n=0):aS.dmQ x y=⟨false,Dg.zero⟩∧aS.dmR x y=⟨false,Dg.zero⟩∧aS.dmOK y=false:=by
 have hy:aK y=0:=by rw[iT,h];simp
 have hd:decide (aK y≠0)=false:=by rw[hy];rfl
 refine⟨?_,?_,hd⟩
 ·show pick (decide (aK y≠0)) _=_;rw[hd];rfl
 ·show pick (decide (aK y≠0)) _=_;rw[hd];rfl
theorem sJ (d:Dg):(((bA d:Int) == 0)=true→d.n=0)∧(((bA d:Int) == 0)=false→d.n≠0):=by
 have:=dA d 0
 rw[show 32*0=0 from rfl,Nat.pow_zero] at this
 constructor
 ·intro h;rw[beq_iff_eq] at h;have:=this.1 (by omega);omega
 ·intro h h0;rw[beq_eq_false_iff_ne] at h;have:=this.2 (by omega);omega
theorem Cy (a b:Dg) (h:a.n < b.n):aS.divQ a b=Dg.zero∧aS.divR a b=a:=
 ⟨Dg.ext' (Nat.div_eq_of_lt h),Dg.ext' (Nat.mod_eq_of_lt h)⟩
theorem H6 (a b:Nat):decide (sgn a b < 0)=decide (a < b):=by
 have h:(sgn a b < 0)↔a < b:=by
  unfold sgn
  constructor
  ·intro h;split at h
   ·omega
   ·split at h <;> exact absurd h (by decide)
  ·intro h;rw[if_pos (by omega)];decide
 exact decide_eq_decide.2 h
theorem GS (d:Dg) (h:bA d=1):1≤d.n∧d.n < 2 ^ 32∧d.dig 0=d.n:=by
 have h1:=(dA d 1).1 (by omega)
 rw[show 32*1=32 from rfl] at h1
 have h0:d.n≠0:=fun h0=>by unfold bA at h;rw[if_pos h0] at h;omega
 exact⟨by omega,h1,by unfold Dg.dig;simp;omega⟩
theorem HG (v:Nat) (h:v < 2 ^ 32):(Dg.zero.set 0 v).n=v:=by
 rw[Dg.set_n _ _ _ (by omega) h];simp[Dg.zero]
def GcI (x y p q:Wd):Prop:=p.neg=false∧q.neg=false∧Nat.gcd p.d.n q.d.n=Nat.gcd x.d.n y.d.n
theorem GcI.step {x y p q:Wd} (h:GcI x y p q) (hq:q.d.n≠0):GcI x y q (aS.dmR p q)∧(aS.dmR p q).d.n < q.d.n:=by
 obtain⟨h1,h2,h3⟩:=h
 obtain⟨-,e, -⟩:=I1 p q hq
 have hb:aU p=false:=by simp[aU,h1]
 rw[e,hb]
 refine⟨⟨h2,rfl,?_⟩,Nat.mod_lt _ (by omega)⟩
 show Nat.gcd q.d.n (p.d.n % q.d.n)=_
 rw[← h3,Nat.gcd_comm, ← Nat.gcd_rec,Nat.gcd_comm]
theorem Dc (x y:Wd):aS.gcd x y=⟨false,⟨Nat.gcd x.d.n y.d.n,lR x.d.lt y.d.lt⟩⟩:=by
 show ofZ ((Int.gcd (aK x) (aK y):Nat):Int)=_
 have e:Int.gcd (aK x) (aK y)=Nat.gcd x.d.n y.d.n:=by unfold Int.gcd;rw[bF,bF]
 rw[e]
 unfold ofZ
 have h0:decide (((Nat.gcd x.d.n y.d.n:Nat):Int) < 0)=false:=by simp
 rw[h0,Int.natAbs_natCast]
 have:bX (Nat.gcd x.d.n y.d.n)=⟨Nat.gcd x.d.n y.d.n,lR x.d.lt y.d.lt⟩:=Dg.ext' (Nat.mod_eq_of_lt (lR x.d.lt y.d.lt))
 rw[this];rfl
theorem AV (d:Dg) (h: ¬ (bA d:Int) > 2):d.n < 2 ^ 64:=by
 have:=(dA d 2).1 (by omega)
 rwa [show 32*2=64 from rfl] at this
theorem d7 (n:Nat) (h:n≠0):1≤bP n∧2 ^ (bP n - 1)≤n∧n < 2 ^ bP n:=by
 unfold bP
 rw[if_neg h]
 exact⟨by omega,by rw[Nat.add_sub_cancel];exact Nat.log2_self_le h,Nat.lt_log2_self⟩
theorem sW (n:Nat):(((bP n:Nat):Int) == 0)=decide (n=0):=by
 by_cases h:n=0
 ·subst h;rfl
 ·have:=(d7 n h).1
  rw[decide_eq_false h,beq_eq_false_iff_ne];omega
def N2 (lo hi:Dg):Nat:=lo.n+2 ^ 1024*hi.n
theorem xJ (d:Dg) (i:Nat):d.dig i=d.n / 2 ^ (32*i) % 2 ^ 32:=rfl
theorem HI (lo hi:Dg) (k:Nat) (hk:k < 64):(if k < 32 then lo.dig k else hi.dig (k - 32))=N2 lo hi / 2 ^ (32*k) % 2 ^ 32:=by
 unfold N2
 split
 ·rename_i h
  have e:(2:Nat) ^ 1024=2 ^ (32*k)*(2 ^ 32*2 ^ (32*(31 - k))):=by rw[← Nat.pow_add, ← Nat.pow_add];congr 1;omega
  rw[e,Nat.mul_assoc,Nat.add_mul_div_left _ _ (Nat.two_pow_pos _),Nat.mul_assoc,Nat.add_mul_mod_self_left,xJ]
 ·rename_i h
  have e:2 ^ (32*k)=2 ^ 1024*2 ^ (32*(k - 32)):=by rw[← Nat.pow_add];congr 1;omega
  rw[e, ← Nat.div_div_eq_div_mul,Nat.add_mul_div_left _ _ (Nat.two_pow_pos _),Nat.div_eq_of_lt lo.lt,Nat.zero_add,xJ]
theorem Ek (d:Dg) (i v:Nat) (hi:i < 32) (hv:v < 2 ^ 32):(d.set i v).n+2 ^ (32*i)*d.dig i=d.n+2 ^ (32*i)*v:=by
 rw[Dg.set_n d i v hi hv,xJ]
 have e1:=Nat.div_add_mod d.n (2 ^ (32*i))
 have e2:=Nat.div_add_mod (d.n / 2 ^ (32*i)) (2 ^ 32)
 generalize d.n / 2 ^ (32*i)=a at *
 generalize 2 ^ (32*i)=P at *
 generalize d.n % P=r at *
 generalize hq:a / 2 ^ 32=q at *
 generalize hs:a % 2 ^ 32=s at *
 rw[← e1, ← e2,Nat.mul_add,Nat.mul_add]
 omega
theorem MO (lo hi:Dg) (k v:Nat) (hk:k < 64) (hv:v < 2 ^ 32) :
  N2 (if k < 32 then lo.set k v else lo) (if k < 32 then hi else hi.set (k - 32) v)+2 ^ (32*k)*(N2 lo hi / 2 ^ (32*k) % 2 ^ 32)=N2 lo hi+2 ^ (32*k)*v:=by
 rw[← HI lo hi k hk]
 unfold N2
 by_cases h:k < 32
 ·simp only[h,if_true]
  have:=Ek lo k v h hv
  omega
 ·simp only[h,if_false]
  have:=Ek hi (k - 32) v (by omega) hv
  have e:2 ^ (32*k)=2 ^ 1024*2 ^ (32*(k - 32)):=by rw[← Nat.pow_add];congr 1;omega
  rw[e,Nat.mul_assoc,Nat.mul_assoc]
  generalize 2 ^ (32*(k - 32))*hi.dig (k - 32)=a at *
  generalize 2 ^ (32*(k - 32))*v=b at *
  generalize (hi.set (k - 32) v).n=c at *
  generalize hi.n=d at *
  generalize (2:Nat) ^ 1024=Q
  have e2:Q*c+Q*a=Q*d+Q*b:=by rw[← Nat.mul_add, ← Nat.mul_add,this]
  omega
theorem Ej (N N' P v c:Nat) (hP:0 < P) (hv:v < 2 ^ 32) (h:N'+P*(N / P % 2 ^ 32)=N+P*v) (hN:N < P*2 ^ 32*c):N' < P*2 ^ 32*c:=by
 have e1:=Nat.div_add_mod N P
 have e2:=Nat.div_add_mod (N / P) (2 ^ 32)
 have hr:=Nat.mod_lt N hP
 generalize N / P=a at *
 generalize N % P=r at *
 generalize hq:a / 2 ^ 32=q at *
 generalize hs:a % 2 ^ 32=s at *
 have hqc:q < c:=by
  have:P*2 ^ 32*q≤N:=by rw[← e1, ← e2,Nat.mul_add,Nat.mul_assoc];omega
  exact Nat.lt_of_mul_lt_mul_left (Nat.lt_of_le_of_lt this hN)
 have h1:N'=P*2 ^ 32*q+P*v+r:=by
  have:N=P*2 ^ 32*q+P*s+r:=by rw[← e1, ← e2,Nat.mul_add,Nat.mul_assoc]
  omega
 have h2:P*v+r < P*2 ^ 32:=by
  have:P*(v+1)≤P*2 ^ 32:=Nat.mul_le_mul_left _ (by omega)
  rw[Nat.mul_add] at this
  omega
 have h3:P*2 ^ 32*(q+1)≤P*2 ^ 32*c:=Nat.mul_le_mul_left _ hqc
 rw[Nat.mul_add] at h3
 omega
def InI (d e:Dg) (i j N c:Nat):Prop:=N < 2 ^ (32*(i+bA e))∧N+2 ^ (32*(i+j))*c=d.n % 2 ^ (32*i)*e.n+2 ^ (32*i)*(d.dig i*(e.n % 2 ^ (32*j)))∧c < 2 ^ 32
theorem InI.step {d e:Dg} {i j N c:Nat} (h:InI d e i j N c) (hj:j < bA e) {w N':Nat} (hw:w=d.dig i*e.dig j+N / 2 ^ (32*(i+j)) % 2 ^ 32+c)
  (hN:N'+2 ^ (32*(i+j))*(N / 2 ^ (32*(i+j)) % 2 ^ 32)=N+2 ^ (32*(i+j))*(w % 2 ^ 32)):InI d e i (j+1) N' (w / 2 ^ 32)∧w < 2 ^ 64:=by
 obtain⟨h1,h2,h3⟩:=h
 have hx:=fQ d i
 have hy:=fQ e j
 have hs:N / 2 ^ (32*(i+j)) % 2 ^ 32 < 2 ^ 32:=Nat.mod_lt _ (by decide)
 have hxy:d.dig i*e.dig j≤4294967295*4294967295:=Nat.mul_le_mul (by omega) (by omega)
 have hwlt:w < 2 ^ 64:=by rw[hw];omega
 refine⟨⟨?_,?_,?_⟩,hwlt⟩
 ·have e1:2 ^ (32*(i+bA e))=2 ^ (32*(i+j))*2 ^ 32*2 ^ (32*(bA e - j - 1)):=by rw[← Nat.pow_add, ← Nat.pow_add];congr 1;omega
  rw[e1] at h1 ⊢
  exact Ej N N' _ _ _ (Nat.two_pow_pos _) (Nat.mod_lt _ (by decide)) hN h1
 ·have e2:2 ^ (32*(i+(j+1)))=2 ^ (32*(i+j))*2 ^ 32:=by rw[← Nat.pow_add];congr 1
  have e3:=Nat.div_add_mod w (2 ^ 32)
  rw[iP e j,e2]
  have e4:2 ^ (32*(i+j))=2 ^ (32*i)*2 ^ (32*j):=by rw[Nat.mul_add,Nat.pow_add]
  have e5:2 ^ (32*i)*(d.dig i*(e.n % 2 ^ (32*j)+2 ^ (32*j)*e.dig j))=2 ^ (32*i)*(d.dig i*(e.n % 2 ^ (32*j)))+2 ^ (32*(i+j))*(d.dig i*e.dig j):=by
   rw[Nat.mul_add,Nat.mul_add,e4,Nat.mul_assoc,Nat.mul_left_comm (d.dig i)]
  rw[e5, ← Nat.add_assoc, ← h2]
  clear e4 e5 h1 h2 e2
  generalize 2 ^ (32*(i+j))=Q at *
  generalize N / Q % 2 ^ 32=s at *
  generalize d.dig i*e.dig j=xy at *
  generalize w / 2 ^ 32=c' at *
  generalize w % 2 ^ 32=l at *
  clear hx hy hxy hwlt hs h3
  have e6:Q*2 ^ 32*c'+Q*l=Q*xy+Q*s+Q*c:=by
   rw[Nat.mul_assoc, ← Nat.mul_add,e3,hw,Nat.mul_add,Nat.mul_add]
  omega
 ·rw[Nat.div_lt_iff_lt_mul (by decide)]
  exact hwlt
theorem InI.first {d e:Dg} {i N:Nat} (h:N=d.n % 2 ^ (32*i)*e.n):InI d e i 0 N 0:=by
 refine⟨?_,by simp[h,Nat.mod_one],by decide⟩
 have he:=(dA e (bA e)).1 (Nat.le_refl _)
 rw[h,show 32*(i+bA e)=32*i+32*bA e by omega,Nat.pow_add]
 exact Nat.mul_lt_mul_of_lt_of_le (Nat.mod_lt _ (Nat.two_pow_pos _)) (Nat.le_of_lt he) (Nat.two_pow_pos _)
theorem InI.last {d e:Dg} {i N c N':Nat} (h:InI d e i (bA e) N c) (hN:N'+2 ^ (32*(i+bA e))*(N / 2 ^ (32*(i+bA e)) % 2 ^ 32)=N+2 ^ (32*(i+bA e))*c):N'=d.n % 2 ^ (32*(i+1))*e.n:=by
 obtain⟨h1,h2,h3⟩:=h
 have he:=(dA e (bA e)).1 (Nat.le_refl _)
 rw[Nat.div_eq_of_lt h1,Nat.zero_mod,Nat.mul_zero,Nat.add_zero,h2,Nat.mod_eq_of_lt he] at hN
 rw[hN,iP d i,Nat.add_mul,Nat.mul_assoc]
theorem Ke (x y:Wd) (D:Dg) (h:D.n=x.d.n*y.d.n):aS.mul x y=tld (!(aU x == aU y)) D∧aS.mulOK x y=true:=by
 have hab:(aK x*aK y).natAbs=x.d.n*y.d.n:=by rw[Int.natAbs_mul,bF,bF]
 have hf:jB (aK x*aK y)=true:=decide_eq_true (by rw[hab, ← h];exact D.lt)
 refine⟨?_,hf⟩
 show pick (jB (aK x*aK y)) (aK x*aK y)=_
 rw[hf,gG,h,iT x,iT y]
 show ofZ _=ofZ _
 congr 1
 cases aU x <;> cases aU y <;> simp[Int.neg_mul,Int.mul_neg]
theorem F2 (x y:Wd) (h:2 ^ 1024≤x.d.n*y.d.n):aS.mul x y=⟨false,Dg.zero⟩∧aS.mulOK x y=false:=by
 have hab:(aK x*aK y).natAbs=x.d.n*y.d.n:=by rw[Int.natAbs_mul,bF,bF]
 have hf:jB (aK x*aK y)=false:=decide_eq_false (by rw[hab];omega)
 refine⟨?_,hf⟩
 show pick (jB (aK x*aK y)) _=_
 rw[hf];rfl
def RG:Nat→Nat→List Int
 | 0,_=>[]
 | f+1,n=>if n=0 then[] else(48+(n % 10:Nat):Int) :: RG f (n / 10)
def Re (w:Wd):List Int:=if w.d.n=0 then[48] else(RG 400 w.d.n++if w.neg then[45] else[]).reverse
def Sm (k:Nat) (z:Int):Prop:=z.natAbs < 2 ^ k
theorem Sm.mono {j k:Nat} {z:Int} (h:Sm j z) (hk:j≤k):Sm k z:=Nat.lt_of_lt_of_le h (Nat.pow_le_pow_right (by decide) hk)
theorem Sm.neg {k:Nat} {z:Int} (h:Sm k z):Sm k (-z):=by unfold Sm;rw[Int.natAbs_neg];exact h
theorem Sm.add {k:Nat} {a b:Int} (ha:Sm k a) (hb:Sm k b):Sm (k+1) (a+b):=by
 unfold Sm at *
 have:=Int.natAbs_add_le a b
 rw[Nat.pow_succ]
 omega
theorem Sm.sub {k:Nat} {a b:Int} (ha:Sm k a) (hb:Sm k b):Sm (k+1) (a - b):=by
 rw[Int.sub_eq_add_neg];exact ha.add hb.neg
theorem Sm.mul {j k:Nat} {a b:Int} (ha:Sm j a) (hb:Sm k b):Sm (j+k) (a*b):=by
 unfold Sm at *
 rw[Int.natAbs_mul,Nat.pow_add]
 rcases Nat.eq_zero_or_pos b.natAbs with h0 | h0
 ·rw[h0,Nat.mul_zero];exact Nat.mul_pos (Nat.two_pow_pos _) (Nat.two_pow_pos _)
 ·exact Nat.lt_of_lt_of_le (Nat.mul_lt_mul_of_pos_right ha h0) (Nat.mul_le_mul_left _ (Nat.le_of_lt hb))
theorem Sm.of_le {k:Nat} {a b:Int} (ha:Sm k a) (h:b.natAbs≤a.natAbs):Sm k b:=Nat.lt_of_le_of_lt h ha
theorem Sm.fit {k:Nat} {z:Int} (h:Sm k z) (hk:k≤1024):jB z=true:=decide_eq_true (p:=z.natAbs < 2 ^ 1024) (h.mono hk)
theorem Sm.wd (w:Wd):Sm 1024 (aK w):=by
 have h:=CH w
 exact of_decide_eq_true (p:=(aK w).natAbs < 2 ^ 1024) h
theorem Sm.bits {w:Wd} {k:Nat} (h:((bP w.d.n:Nat):Int)≤k):Sm k (aK w):=by
 unfold Sm
 rw[bF]
 by_cases h0:w.d.n=0
 ·rw[h0];exact Nat.two_pow_pos _
 ·exact Nat.lt_of_lt_of_le (d7 _ h0).2.2 (Nat.pow_le_pow_right (by decide) (by omega))
theorem Rz {x y:Wd} {a b:Int} (hx:aK x=a) (hy:aK y=b) (h:jB (a+b)=true):aS.add x y=ofZ (a+b)∧aS.addOK x y=true∧aK (aS.add x y)=a+b:=by
 subst hx hy
 have e:aS.add x y=ofZ (aK x+aK y):=by show pick _ _=_;rw[h];rfl
 exact⟨e,h,by rw[e];exact dV h⟩
theorem RA {x y:Wd} {a b:Int} (hx:aK x=a) (hy:aK y=b) (h:jB (a*b)=true):aS.mul x y=ofZ (a*b)∧aS.mulOK x y=true∧aK (aS.mul x y)=a*b:=by
 subst hx hy
 have e:aS.mul x y=ofZ (aK x*aK y):=by show pick _ _=_;rw[h];rfl
 exact⟨e,h,by rw[e];exact dV h⟩
theorem Sg {x y:Wd} {a b:Int} (hx:aK x=a) (hy:aK y=b) (hb:b≠0):aS.dmOK y=true∧aK (aS.dmQ x y)=a.tdiv b∧aK (aS.dmR x y)=a.tmod b∧aS.dmQ x y=ofZ (a.tdiv b)∧aS.dmR x y=ofZ (a.tmod b):=by
 subst hx hy
 have hd:decide (aK y≠0)=true:=decide_eq_true hb
 have e1:aS.dmQ x y=ofZ ((aK x).tdiv (aK y)):=by show pick _ _=_;rw[hd];rfl
 have e2:aS.dmR x y=ofZ ((aK x).tmod (aK y)):=by show pick _ _=_;rw[hd];rfl
 have f1:jB ((aK x).tdiv (aK y))=true:=((Sm.wd x).of_le (by rw[Int.natAbs_tdiv];exact Nat.div_le_self _ _)).fit (Nat.le_refl _)
 have f2:jB ((aK x).tmod (aK y))=true:=((Sm.wd x).of_le (by rw[Int.natAbs_tmod];exact Nat.mod_le _ _)).fit (Nat.le_refl _)
 exact⟨hd,by rw[e1];exact dV f1,by rw[e2];exact dV f2,e1,e2⟩
theorem E7 {n:Int} (h:n.natAbs < 2 ^ 64):aK (aV.from64 n)=n:=dV (z:=n) (decide_eq_true (Nat.lt_trans h (Nat.pow_lt_pow_right (by decide) (by decide))))
theorem FO (x y:Wd):gE (aS.add x y)=true:=by show gE (pick _ _)=true;unfold pick;split;exact jO _;rfl
theorem mV (x y:Wd):gE (aS.mul x y)=true:=by show gE (pick _ _)=true;unfold pick;split;exact jO _;rfl
theorem HU {a b:Bool} (h:b=true):aA.imp a b=true:=by show(!a||b)=true;rw[h];simp
end Go.Eng
