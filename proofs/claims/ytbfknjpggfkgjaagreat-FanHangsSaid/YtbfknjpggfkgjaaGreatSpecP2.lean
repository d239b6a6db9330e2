
import Derived.Test.YtbfknjpggfkgjaaGreatSpecP
import Derived.Test.YtbfknjpggfkgjaaGreatSpecBA
set_option linter.all false
set_option exponentiation.threshold 3000
set_option maxRecDepth 100000
set_option maxHeartbeats 2000000
namespace Go.Eng
def XE (F:Pt→Bool) (l:List Pt):Nat→List Pt
 | 0=>[]
 | k+1=>if F (pC l k) then XE F l k++[pC l k] else XE F l k
theorem f9 {l:List Pt} {k:Nat} (h:k < l.length):pC l (k:Int)=l[k]:=by
 show(l[((k:Nat):Int).toNat]?).getD _=_
 rw[Int.toNat_natCast,List.getElem?_eq_getElem h];rfl
theorem acR (F:Pt→Bool) (l:List Pt): ∀ k,k≤l.length→XE F l k=(l.take k).filter F
 | 0,_=>by simp[XE]
 | k+1,h=>by
  have ih:=acR F l k (by omega)
  unfold XE
  rw[f9 (show k < l.length by omega),List.take_succ_eq_append_getElem (show k < l.length by omega),List.filter_append,ih]
  cases hF:F l[k] <;> simp[hF]
theorem ab9 (F:Pt→Bool) (l:List Pt):XE F l l.length=l.filter F:=by rw[acR F l _ (Nat.le_refl _),List.take_length]
theorem VV {F:Pt→Bool} {l:List Pt} (h: ∀ k:Nat,k < l.length→F (pC l k)=false):l.filter F=[]:=by
 rw[List.filter_eq_nil_iff]
 intro x hx
 obtain⟨k,hk,e⟩:=List.mem_iff_getElem.1 hx
 have:=h k hk
 rw[f9 hk,e] at this
 rw[this];decide
theorem acZ {F:Pt→Bool} {l:List Pt} {i j:Nat} (hij:i≤j) (hj:j≤l.length) (lo: ∀ k:Nat,k < i→F (pC l k)=false) (hi: ∀ k:Nat,j≤k→k < l.length→F (pC l k)=false):((l.take j).drop i).filter F=l.filter F:=by
 have e1:l=l.take j++l.drop j:=(List.take_append_drop j l).symm
 have e2:l.take j=(l.take j).take i++(l.take j).drop i:=(List.take_append_drop i (l.take j)).symm
 have n1:(l.drop j).filter F=[]:=VV fun k hk=>by
  rw[List.length_drop] at hk
  have:=hi (j+k) (by omega) (by omega)
  rw[f9 (by omega)] at this
  rw[f9 (by rw[List.length_drop];omega),List.getElem_drop]
  exact this
 have n2:((l.take j).take i).filter F=[]:=VV fun k hk=>by
  rw[List.length_take,List.length_take] at hk
  have:=lo k (by omega)
  rw[f9 (by omega)] at this
  rw[f9 (by rw[List.length_take,List.length_take];omega),List.getElem_take,List.getElem_take]
  exact this
 have e3:(l.take j).filter F=((l.take j).drop i).filter F:=by
  rw[e2,List.filter_append,n2,List.nil_append, ← e2]
 rw[← e3]
 have e4:l.filter F=(l.take j).filter F++(l.drop j).filter F:=by rw[← List.filter_append, ← e1]
 rw[e4,n1,List.append_nil]
theorem ac2 {a b:Pt} :iQ a b < 0↔px a < px b∨(px a=px b∧py a < py b):=by
 rcases jE a b with ⟨h,e,_⟩ | ⟨h1,h2,e,_⟩ | ⟨h,e,_⟩ <;> rw[e] <;> constructor <;> intro g <;> first | exact h | exact absurd g (by decide) | decide | (exfalso;grind)
theorem adC {a b:Pt} :iQ a b > 0↔px b < px a∨(px a=px b∧py b < py a):=by
 rcases jE a b with ⟨h,e,_⟩ | ⟨h1,h2,e,_⟩ | ⟨h,e,_⟩ <;> rw[e] <;> constructor <;> intro g <;> first | exact h | exact absurd g (by decide) | decide | (exfalso;grind)
theorem adE {a b:Pt} :iQ a b=0↔px a=px b∧py a=py b:=by
 rcases jE a b with ⟨h,e,_⟩ | ⟨h1,h2,e,_⟩ | ⟨h,e,_⟩ <;> rw[e] <;> constructor <;> intro g <;> first | exact⟨h1,h2⟩ | exact absurd g (by decide) | rfl | (exfalso;grind)
theorem aeX {a b c:Pt} (h1: ¬ iQ a b < 0) (h2:iQ a c < 0):iQ b c < 0:=by
 rw[ac2] at *;grind
theorem aeU {a b q:Pt} (h:onP a b q=true) (hab: ¬ iQ a b > 0): ¬ iQ q a < 0∧ ¬ iQ q b > 0:=by
 obtain⟨h1,h2⟩:=D0.1 h
 unfold bB at h1
 unfold gY at h2
 obtain⟨t,t0,t1,ex,ey⟩:=Zq h1 h2
 rw[adC] at hab
 rw[ac2,adC, ← ex, ← ey]
 clear h h1 h2 ex ey
 generalize px a=ax at *
 generalize py a=ay at *
 generalize px b=bx at *
 generalize py b=by_ at *
 by_cases hx:ax=bx
 ·subst hx
  have hy:0≤by_ - ay:=by grind
  have p1:=nn t0 hy
  have p2:=nn (u:=1 - t) (v:=by_ - ay) (by grind) hy
  constructor <;> intro g <;> grind
 ·have hd:0 < bx - ax:=by grind
  have p1:=nn t0 (show 0≤bx - ax by grind)
  have p2:=nn (u:=1 - t) (v:=bx - ax) (by grind) (by grind)
  constructor
  ·intro g
   have hz:t*(bx - ax)=0:=by grind
   have ht:t=0:=by
    rcases Rat.mul_eq_zero.1 hz with h | h
    ·exact h
    ·grind
   subst ht
   grind
  ·intro g
   have hz:(1 - t)*(bx - ax)=0:=by grind
   have ht:t=1:=by
    rcases Rat.mul_eq_zero.1 hz with h | h
    ·grind
    ·grind
   subst ht
   grind
theorem aeT {a b q:Pt} (h:onP a b q=true):(px q - px a)*(px q - px b)≤0∧(py q - py a)*(py q - py b)≤0:=by
 obtain⟨h1,h2⟩:=D0.1 h
 unfold bB at h1
 unfold gY at h2
 obtain⟨t,t0,t1,ex,ey⟩:=Zq h1 h2
 rw[← ex, ← ey]
 have k:0≤t*(1 - t):=nn t0 (by grind)
 have s1:=nn k (Yu (px b - px a))
 have s2:=nn k (Yu (py b - py a))
 constructor <;> grind
def loP (a b:Pt):Pt:=if bD.cmp a b > 0 then b else a
def hiP (a b:Pt):Pt:=if bD.cmp a b > 0 then a else b
def frP (a b:Pt) (l:List Pt):Int:=v5 l (loP a b)
def toP (a b:Pt) (l:List Pt):Int:=aA.mx (v5 l (loP a b)) (if i8 l (hiP a b) then v5 l (hiP a b)+1 else v5 l (hiP a b))
def ZU (a b:Pt) (l:List Pt):List Pt:=aA.sub l (frP a b l) (toP a b l)
def onE (a b q:Pt):Bool:=(dX [a,b,q]&&onP a b q)&&(!decide (q=a)&& !decide (q=b))
def adU (a b:Pt) (l:List Pt):List Pt:=if bD.cmp a b > 0 then l.reverse else l
def aaS (a b:Pt) (l:List Pt):List Pt:=if dX [a]&&dX [b] then adU a b (XE (onE a b) (ZU a b l) (ZU a b l).length) else[]
def ae9 (a b p:Pt):Bool:=decide (IntKind.i64.wrap (aO.cmp p.X a.X*aO.cmp p.X b.X) > 0)||decide (IntKind.i64.wrap (aO.cmp p.Y a.Y*aO.cmp p.Y b.Y) > 0)
def onQ (a b p:Pt):Bool:= !ae9 a b p&&onE a b p
def adG (a b:Pt) (l:List Pt):List Pt:=adU a b (XE (onQ a b) l l.length)
theorem ae0 (a b:Pt) (l:List Pt):0≤frP a b l∧frP a b l≤toP a b l∧toP a b l≤aY l:=by
 have h1:=UV l (loP a b)
 have h2:=UV l (hiP a b)
 have mx: ∀ p q:Int,aA.mx p q=if p < q then q else p:=fun p q=>rfl
 unfold frP toP
 rw[mx]
 refine⟨h1.1,by split <;> omega,?_⟩
 cases ht:i8 l (hiP a b)
 ·simp only[Bool.false_eq_true,if_false];split <;> omega
 ·unfold i8 at ht
  rw[Bool.and_eq_true,decide_eq_true_eq] at ht
  simp only[if_true];split <;> omega
theorem adS {a b q:Pt} (ha:dJ a=true) (hb:dJ b=true) (h:onE a b q=true): ¬ iQ q (loP a b) < 0∧ ¬ iQ q (hiP a b) > 0:=by
 unfold onE at h
 rw[Bool.and_eq_true,Bool.and_eq_true] at h
 have ho:=h.1.2
 unfold loP hiP
 rw[VJ ha hb]
 by_cases c:iQ a b > 0
 ·rw[if_pos c,if_pos c]
  rw[wF] at ho
  refine aeU ho fun g=>?_
  rw[adC] at c g
  grind
 ·rw[if_neg c,if_neg c]
  exact aeU ho c
theorem ad0 {a b:Pt} {l:List Pt} (hl:Z4 l) (ha:dJ a=true) (hb:dJ b=true):XE (onE a b) (ZU a b l) (ZU a b l).length=l.filter (onE a b):=by
 rw[ab9]
 have bd:=ae0 a b l
 have hlo:dJ (loP a b)=true:=by unfold loP;split <;> assumption
 have hhi:dJ (hiP a b)=true:=by unfold hiP;split <;> assumption
 show((l.take (toP a b l).toNat).drop (frP a b l).toNat).filter _=_
 have hle:aY l=(l.length:Int):=rfl
 refine acZ (by omega) (by omega) (fun k hk=>?_) (fun k k0 k1=>?_)
 ·cases hF:onE a b (pC l k)
  ·rfl
  ·exfalso
   have h1:=(acW hl hlo).1 k (by omega) (by unfold frP at hk;omega)
   exact(adS ha hb hF).1 h1
 ·cases hF:onE a b (pC l k)
  ·rfl
  ·exfalso
   refine(adS ha hb hF).2 ?_
   have mx: ∀ p q:Int,aA.mx p q=if p < q then q else p:=fun p q=>rfl
   have hto:(if i8 l (hiP a b) then v5 l (hiP a b)+1 else v5 l (hiP a b))≤k:=by
    have:toP a b l≤k:=by omega
    unfold toP at this
    rw[mx] at this
    generalize (if i8 l (hiP a b)=true then v5 l (hiP a b)+1 else v5 l (hiP a b))=T at this ⊢
    split at this <;> omega
   have pb:=UV l (hiP a b)
   have h1:=(acW hl hhi).2
   by_cases hk:(k:Int)=v5 l (hiP a b)
   ·cases ht:i8 l (hiP a b)
    ·unfold i8 at ht
     rw[← hk,decide_eq_true (show(k:Int) < aY l by omega),Bool.true_and,decide_eq_false_iff_not,VJ (hl.ok k (by omega) (by omega)) hhi] at ht
     have:=h1 k (by omega) (by omega)
     omega
    ·rw[ht] at hto
     simp only[if_true] at hto
     omega
   ·have hp:v5 l (hiP a b) < k:=by split at hto <;> omega
    have h2:=h1 (v5 l (hiP a b)) (Int.le_refl _) (by omega)
    have h3:=hl.lt (v5 l (hiP a b)) k pb.1 hp (by omega)
    have h4:=aeX h2 h3
    rw[ac2] at h4
    rw[gt_iff_lt, ← gt_iff_lt,adC]
    grind
theorem Z4.mem {l:List Pt} (hl:Z4 l) {x:Pt} (hx:x∈l):dJ x=true:=by
 obtain⟨k,hk,e⟩:=List.mem_iff_getElem.1 hx
 have:=hl.ok k (by omega) (by unfold aY;omega)
 rwa [f9 hk,e] at this
def adP (l:List Pt):Bool:=dX l&&decide (l.Pairwise fun a b=>iQ a b < 0)
theorem VH {l:List Pt} :Z4 l↔(∀ x,x∈l→dJ x=true)∧l.Pairwise fun a b=>iQ a b < 0:=by
 rw[List.pairwise_iff_getElem]
 constructor
 ·intro h
  refine⟨fun x hx=>h.mem hx,fun i j hi hj hij=>?_⟩
  have:=h.lt i j (by omega) (by omega) (by unfold aY;omega)
  rwa [f9 hi,f9 hj] at this
 ·rintro⟨h1,h2⟩
  refine⟨fun k k0 k1=>?_,fun i j i0 ij j1=>?_⟩
  ·unfold aY at k1
   have hk:k.toNat < l.length:=by omega
   have:pC l k=l[k.toNat]:=by rw[← f9 hk,Int.toNat_of_nonneg k0]
   rw[this];exact h1 _ (List.getElem_mem hk)
  ·unfold aY at j1
   have hi:i.toNat < l.length:=by omega
   have hj:j.toNat < l.length:=by omega
   have ei:pC l i=l[i.toNat]:=by rw[← f9 hi,Int.toNat_of_nonneg i0]
   have ej:pC l j=l[j.toNat]:=by rw[← f9 hj,Int.toNat_of_nonneg (by omega)]
   rw[ei,ej]
   exact h2 _ _ hi hj (by omega)
def ad5 (l:List Pt) (p:Pt):List Pt:=if i8 l p then l else(l.take (v5 l p).toNat++[p])++l.drop (v5 l p).toNat
def ac3 (l:List Pt):Nat→List Pt
 | 0=>[]
 | k+1=>if dJ (pC l k) then ad5 (ac3 l k) (pC l k) else ac3 l k
theorem adJ {l:List Pt} (hl:Z4 l) {p:Pt} (hp:dJ p=true):Z4 (ad5 l p):=by
 unfold ad5
 cases ht:i8 l p
 ·simp only[Bool.false_eq_true,if_false]
  have pb:=UV l p
  have hlt:=acW hl hp
  obtain⟨r1,r2⟩:=VH.1 hl
  have lo: ∀ x,x∈l.take (v5 l p).toNat→iQ x p < 0:=fun x hx=>by
   obtain⟨k,hk,e⟩:=List.mem_iff_getElem.1 hx
   rw[List.length_take] at hk
   rw[List.getElem_take] at e
   have:=hlt.1 k (by omega) (by omega)
   rwa [f9 (by omega),e] at this
  have hi: ∀ x,x∈l.drop (v5 l p).toNat→iQ p x < 0:=fun x hx=>by
   obtain⟨k,hk,e⟩:=List.mem_iff_getElem.1 hx
   rw[List.length_drop] at hk
   rw[List.getElem_drop] at e
   have hle:aY l=(l.length:Int):=rfl
   have h1:=hlt.2 (v5 l p) (Int.le_refl _) (by omega)
   have h0:iQ p (pC l (v5 l p)) < 0:=by
    unfold i8 at ht
    rw[decide_eq_true (show v5 l p < aY l by omega),Bool.true_and,decide_eq_false_iff_not,VJ (hl.ok _ pb.1 (by omega)) hp] at ht
    rw[ac2] at h1 ⊢
    rw[adE] at ht
    grind
   by_cases hk0:k=0
   ·subst hk0
    rw[← e, ← f9 (by omega)]
    rwa [show(((v5 l p).toNat+0:Nat):Int)=v5 l p by omega]
   ·have h2:=hl.lt (v5 l p) (v5 l p+k) pb.1 (by omega) (by omega)
    have h3:=tV h0 h2
    rw[← e, ← f9 (by omega)]
    rwa [show(((v5 l p).toNat+k:Nat):Int)=v5 l p+k by omega]
  refine VH.2 ⟨fun x hx=>?_,?_⟩
  ·rw[List.mem_append,List.mem_append,List.mem_singleton] at hx
   rcases hx with (hx | hx) | hx
   ·exact r1 x (List.mem_of_mem_take hx)
   ·rw[hx];exact hp
   ·exact r1 x (List.mem_of_mem_drop hx)
  ·rw[List.append_assoc,List.pairwise_append]
   refine⟨r2.sublist (List.take_sublist _ _),?_,fun a ha b hb=>?_⟩
   ·rw[List.singleton_append,List.pairwise_cons]
    exact⟨hi,r2.sublist (List.drop_sublist _ _)⟩
   ·rw[List.singleton_append,List.mem_cons] at hb
    rcases hb with rfl | hb
    ·exact lo a ha
    ·exact tV (lo a ha) (hi b hb)
 ·simp only[if_true];exact hl
theorem Vi (l:List Pt): ∀ k,Z4 (ac3 l k)
 | 0=>VH.2 ⟨fun x hx=>(by cases hx),List.Pairwise.nil⟩
 | k+1=>by
  unfold ac3
  split
  ·rename_i h;exact adJ (Vi l k) h
  ·exact Vi l k
theorem ad6 (l:List Pt) (p:Pt):(ad5 l p).length≤l.length+1:=by
 unfold ad5
 split
 ·omega
 ·rw[List.length_append,List.length_append,List.length_take,List.length_drop];simp;omega
theorem acO (l:List Pt): ∀ k,(ac3 l k).length≤k
 | 0=>Nat.le_refl _
 | k+1=>by
  have:=acO l k
  unfold ac3
  split
  ·have:=ad6 (ac3 l k) (pC l k);omega
  ·omega
def afA (p0 p1 p2 p3:Pt):List Pt:=(((if p0≠p3 then[p0] else[])++(if p1≠p0 then[p1] else[]))++(if p2≠p1 then[p2] else[]))++(if p3≠p2 then[p3] else[])
def ZX (u v w:Pt):List Pt:=afA ⟨u.X,v.X⟩ ⟨u.Y,w.X⟩ ⟨u.Y,w.Y⟩ ⟨u.X,v.Y⟩
def acX (f:Pt→Pt→List Pt) (c:List Pt):Nat→List Pt
 | 0=>[]
 | k+1=>(acX f c k++[pC c k])++f (pC c k) (pC c (((k:Int)+1) % aY c))
def arW (u v w:Pt):Bool:=(((((aO.safe u.X 12&&aO.safe u.Y 12)&&aO.safe v.X 12)&&aO.safe v.Y 12)&&aO.safe w.X 12)&&aO.safe w.Y 12)&&(((decide (aO.cmp u.X u.Y < 0)&&decide (aO.cmp v.X v.Y≤0))&&decide (aO.cmp w.X w.Y≤0))&&(decide (aO.cmp v.X v.Y < 0)||decide (aO.cmp w.X w.Y < 0)))
structure SP where
 rise:List Pt→Bool
 pos:List Pt→Pt→Int
 there:List Pt→Pt→Bool
 fr:Pt→Pt→List Pt→Int
 to:Pt→Pt→List Pt→Int
 lo:Pt→Pt→Pt
 hi:Pt→Pt→Pt
 amg:Pt→Pt→List Pt→List Pt
 on:Pt→Pt→Pt→Bool
 onq:Pt→Pt→Pt→Bool
 btw:Pt→Pt→List Pt→List Pt
 btwq:Pt→Pt→List Pt→List Pt
 srt:List Pt→List Pt
 rv:List Pt→List Pt
 cor:Pt→Pt→Pt→List Pt
 rim:Pt→Pt→Pt→List Pt→List Pt
 ring:Pt→Pt→Pt→List Pt→List Pt
 find:List Pt→Pt→Int
 same:List Pt→List Pt→Bool
 good:Pt→Pt→Pt→Bool
def f7:SP where
 rise:=adP
 pos:=v5
 there:=i8
 fr:=frP
 to:=toP
 lo:=loP
 hi:=hiP
 amg:=ZU
 on:=onE
 onq:=onQ
 btw:=aaS
 btwq:=adG
 srt l:=ac3 l l.length
 rv l:=l.reverse
 cor:=ZX
 rim u v w n:=acX (fun a b=>aaS a b n) (ZX u v w) (ZX u v w).length
 ring u v w n:=acX (fun a b=>adG a b n) (ZX u v w) (ZX u v w).length
 find l p:=if dJ p&&i8 l p then v5 l p else -1
 same a b:=decide (a=b)
 good:=arW
end Go.Eng
