
import Derived.Test.YtbfknjpggfkgjaaGreatCellSA
set_option linter.all false
set_option exponentiation.threshold 3000
set_option maxRecDepth 100000
namespace Go.Eng
def tlen:List Int→Nat
 | []=>0
 | x :: r=>if tlen r=0 then(if x=0 then 0 else 1) else tlen r+1
theorem yW: ∀ (l:List Int) (n:Nat),n≤l.length→(∀ i,n≤i→i < l.length→l.getD i 0=0)→(n=0∨l.getD (n - 1) 0≠0)→tlen l=n
 | [],n,h,_,_=>by simp at h;subst h;rfl
 | x :: r,0,_,hz,_=>by
  have ih:=yW r 0 (Nat.zero_le _) (fun i _ h=>by have:=hz (i+1) (Nat.zero_le _) (by simpa using h);simpa using this) (.inl rfl)
  have hx:x=0:=by simpa using hz 0 (Nat.le_refl _) (by simp)
  simp[tlen,ih,hx]
 | x :: r,n+1,h,hz,hn=>by
  have hn':(x :: r).getD n 0≠0:=by rcases hn with hn | hn;omega;simpa using hn
  have ih:=yW r n (by simpa using h) (fun i h1 h2=>by have:=hz (i+1) (by omega) (by simpa using h2);simpa using this) (by
   cases n with
   | zero=>exact .inl rfl
   | succ n=>right;simpa using hn')
  cases n with
  | zero=>
   have hx:x≠0:=by simpa using hn'
   simp[tlen,ih,hx]
  | succ n=>simp[tlen,ih]
theorem iS: ∀ l:List Int,tlen l≤l.length
 | []=>Nat.le_refl _
 | x :: r=>by
  have:=iS r
  simp only[tlen,List.length_cons]
  split
  ·split <;> omega
  ·omega
def inR (l:List Int):Prop:= ∀ x,x∈l→0≤x∧x < 4294967296
def rng (l:List Int):Bool:=l.all fun x=>decide (0≤x)&&decide (x < 4294967296)
theorem Ed {l:List Int} :rng l=true↔inR l:=by
 simp only[rng,inR,List.all_eq_true,Bool.and_eq_true,decide_eq_true_eq]
theorem inR.at {l:List Int} (h:inR l) (i:Nat):0≤l.getD i 0∧l.getD i 0 < 4294967296:=by
 by_cases hi:i < l.length
 ·have:l.getD i 0∈l:=by rw[List.getD_eq_getElem?_getD,List.getElem?_eq_getElem hi];exact List.getElem_mem hi
  exact h _ this
 ·rw[List.getD_eq_getElem?_getD,List.getElem?_eq_none (by omega)];decide
theorem inR.tail {x:Int} {l:List Int} (h:inR (x :: l)):inR l:=fun y hy=>h y (List.mem_cons_of_mem _ hy)
theorem inR.head {x:Int} {l:List Int} (h:inR (x :: l)):0≤x∧x < 4294967296:=h x (List.mem_cons_self ..)
def iU:List Int→Nat
 | []=>0
 | x :: r=>x.toNat+2 ^ 32*iU r
theorem uT: ∀ {l:List Int},inR l→iU l < 2 ^ (32*l.length)
 | [],_=>by simp[iU]
 | x :: r,h=>by
  have ih:=uT h.tail
  have hx:=h.head
  simp only[iU,List.length_cons]
  rw[show 32*(r.length+1)=32+32*r.length from by omega,Nat.pow_add]
  have:x.toNat < 2 ^ 32:=by omega
  have h2:2 ^ 32*(iU r+1)≤2 ^ 32*2 ^ (32*r.length):=Nat.mul_le_mul_left _ ih
  omega
theorem l7: ∀ (l m:List Int),iU (l++m)=iU l+2 ^ (32*l.length)*iU m
 | [],m=>by simp[iU]
 | x :: r,m=>by
  simp only[List.cons_append,iU,l7 r m,List.length_cons]
  rw[show 32*(r.length+1)=32+32*r.length from by omega,Nat.pow_add,Nat.mul_add,Nat.mul_assoc]
  omega
theorem ai0 (l:List Int) (i:Nat) (h:i < l.length):iU (l.take (i+1))=iU (l.take i)+2 ^ (32*i)*(l.getD i 0).toNat:=by
 rw[List.take_succ_eq_append_getElem h,l7,List.length_take,Nat.min_eq_left (by omega)]
 simp[iU,List.getD_eq_getElem?_getD,List.getElem?_eq_getElem h]
theorem wA: ∀ {l:List Int},(∀ i,i < l.length→l.getD i 0=0)→iU l=0
 | [],_=>rfl
 | x :: r,h=>by
  have h0:x=0:=by simpa using h 0 (by simp)
  have:=wA (l:=r) fun i hi=>by simpa using h (i+1) (by simpa using hi)
  simp[iU,h0,this]
theorem nL: ∀ (l:List Int),(∀ i,tlen l≤i→i < l.length→l.getD i 0=0)∧(tlen l=0∨l.getD (tlen l - 1) 0≠0)
 | []=>⟨fun i _ h=>by simp at h, .inl rfl⟩
 | x :: r=>by
  obtain⟨h1,h2⟩:=nL r
  have hz:=iS r
  by_cases h0:tlen r=0
  ·by_cases hx:x=0
   ·have e:tlen (x :: r)=0:=by simp[tlen,h0,hx]
    refine⟨fun i _ hi=>?_, .inl e⟩
    cases i with
    | zero=>simpa using hx
    | succ i=>simpa using h1 i (by omega) (by simpa using hi)
   ·have e:tlen (x :: r)=1:=by simp[tlen,h0,hx]
    refine⟨fun i h hi=>?_, .inr ?_⟩
    ·rw[e] at h
     cases i with
     | zero=>omega
     | succ i=>simpa using h1 i (by omega) (by simpa using hi)
    ·rw[e];simpa using hx
  ·have e:tlen (x :: r)=tlen r+1:=by simp[tlen,h0]
   refine⟨fun i h hi=>?_, .inr ?_⟩
   ·rw[e] at h
    cases i with
    | zero=>omega
    | succ i=>simpa using h1 i (by omega) (by simpa using hi)
   ·rw[e]
    rcases h2 with h2 | h2
    ·omega
    ·rw[show tlen r+1 - 1=(tlen r - 1)+1 from by omega,List.getD_cons_succ];exact h2
theorem nB (l:List Int):iU (l.take (tlen l))=iU l:=by
 have h:=(nL l).1
 have h1:=l7 (l.take (tlen l)) (l.drop (tlen l))
 rw[List.take_append_drop] at h1
 have h2:iU (l.drop (tlen l))=0:=wA fun i hi=>by
  have:=h (tlen l+i) (by omega) (by simp only[List.length_drop] at hi;omega)
  simpa [List.getD_eq_getElem?_getD] using this
 rw[h1,h2];omega
theorem inR.take {l:List Int} (h:inR l) (n:Nat):inR (l.take n):=fun x hx=>h x (List.mem_of_mem_take hx)
theorem inR.drop {l:List Int} (h:inR l) (n:Nat):inR (l.drop n):=fun x hx=>h x (List.mem_of_mem_drop hx)
theorem Dv {l:List Int} (hr:inR l) (h:tlen l≠0):2 ^ (32*(tlen l - 1))≤iU l:=by
 rw[← nB l]
 obtain⟨_,h2⟩:=nL l
 have hl:=iS l
 rcases h2 with h2 | h2
 ·exact absurd h2 h
 ·have e:=ai0 l (tlen l - 1) (by omega)
  rw[show tlen l - 1+1=tlen l from by omega] at e
  rw[e]
  have h3:=hr.at (tlen l - 1)
  have:1≤(l.getD (tlen l - 1) 0).toNat:=by omega
  have:=Nat.mul_le_mul_left (2 ^ (32*(tlen l - 1))) this
  omega
theorem iH {l:List Int} (hr:inR l):iU l < 2 ^ (32*tlen l):=by
 have:=uT (hr.take (tlen l))
 rw[nB,List.length_take,Nat.min_eq_left (iS l)] at this
 exact this
theorem Dg.set_topX (d:Dg) (i v:Nat) (hd:d.n < 2 ^ (32*i)) (hi:i < 32) (hv:v < 2 ^ 32):(d.set i v).n=d.n+2 ^ (32*i)*v:=by
 rw[Dg.set_n d i v hi hv,Nat.div_eq_of_lt hd,Nat.mod_eq_of_lt hd]
 simp;omega
theorem qZ {n k:Nat} (h:n < 2 ^ k) (hk:k≤1024):(bX n).n=n:=Nat.mod_eq_of_lt (v7 h hk)
theorem FV (l:List Int) (hr:inR l) (i:Nat) (hi:i < l.length) (h32:i < 32):(bX (iU (l.take i))).set i (l.getD i 0).toNat=bX (iU (l.take (i+1))):=by
 have h1:=uT (hr.take i)
 have h2:=uT (hr.take (i+1))
 rw[List.length_take,Nat.min_eq_left (by omega)] at h1 h2
 have hw:=hr.at i
 apply Dg.ext'
 rw[Dg.set_topX _ _ _ (by rw[qZ h1 (by omega)];exact h1) h32 (by omega),qZ h1 (by omega),qZ h2 (by omega),ai0 l i hi]
end Go.Eng
