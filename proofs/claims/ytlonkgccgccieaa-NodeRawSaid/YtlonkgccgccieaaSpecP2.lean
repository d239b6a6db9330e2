
import Derived.Test.YtlonkgccgccieaaSpecP
import Derived.Test.YtlonkgccgccieaaSpecBA
set_option linter.all false
set_option exponentiation.threshold 3000
set_option maxRecDepth 100000
set_option maxHeartbeats 2000000
namespace Go.Eng
def XE (F:Pt→Bool) (l:List Pt):Nat→List Pt
 | 0=>[]
 | k+1=>if F (pC l k) then XE F l k++[pC l k] else XE F l k
theorem eD {l:List Pt} {k:Nat} (h:k < l.length):pC l (k:Int)=l[k]:=by
 show(l[((k:Nat):Int).toNat]?).getD _=_
 rw[Int.toNat_natCast,List.getElem?_eq_getElem h];rfl
theorem acR (F:Pt→Bool) (l:List Pt): ∀ k,k≤l.length→XE F l k=(l.take k).filter F
 | 0,_=>by simp[XE]
 | k+1,h=>by
  have ih:=acR F l k (by omega)
  unfold XE
  rw[eD (show k < l.length by omega),List.take_succ_eq_append_getElem (show k < l.length by omega),List.filter_append,ih]
  cases hF:F l[k] <;> simp[hF]
theorem ab9 (F:Pt→Bool) (l:List Pt):XE F l l.length=l.filter F:=by rw[acR F l _ (Nat.le_refl _),List.take_length]
theorem ac2 {a b:Pt} :iQ a b < 0↔px a < px b∨(px a=px b∧py a < py b):=by
 rcases jE a b with ⟨h,e,_⟩ | ⟨h1,h2,e,_⟩ | ⟨h,e,_⟩ <;> rw[e] <;> constructor <;> intro g <;> first | exact h | exact absurd g (by decide) | decide | (exfalso;grind)
theorem adE {a b:Pt} :iQ a b=0↔px a=px b∧py a=py b:=by
 rcases jE a b with ⟨h,e,_⟩ | ⟨h1,h2,e,_⟩ | ⟨h,e,_⟩ <;> rw[e] <;> constructor <;> intro g <;> first | exact⟨h1,h2⟩ | exact absurd g (by decide) | rfl | (exfalso;grind)
theorem aeX {a b c:Pt} (h1: ¬ iQ a b < 0) (h2:iQ a c < 0):iQ b c < 0:=by
 rw[ac2] at *;grind
def loP (a b:Pt):Pt:=if bD.cmp a b > 0 then b else a
def hiP (a b:Pt):Pt:=if bD.cmp a b > 0 then a else b
def frP (a b:Pt) (l:List Pt):Int:=r5 l (loP a b)
def toP (a b:Pt) (l:List Pt):Int:=aA.mx (r5 l (loP a b)) (if i8 l (hiP a b) then r5 l (hiP a b)+1 else r5 l (hiP a b))
def ZU (a b:Pt) (l:List Pt):List Pt:=aA.sub l (frP a b l) (toP a b l)
def onE (a b q:Pt):Bool:=(dX [a,b,q]&&onP a b q)&&(!decide (q=a)&& !decide (q=b))
def adU (a b:Pt) (l:List Pt):List Pt:=if bD.cmp a b > 0 then l.reverse else l
def aaS (a b:Pt) (l:List Pt):List Pt:=if dX [a]&&dX [b] then adU a b (XE (onE a b) (ZU a b l) (ZU a b l).length) else[]
def ae9 (a b p:Pt):Bool:=decide (IntKind.i64.wrap (aO.cmp p.X a.X*aO.cmp p.X b.X) > 0)||decide (IntKind.i64.wrap (aO.cmp p.Y a.Y*aO.cmp p.Y b.Y) > 0)
def onQ (a b p:Pt):Bool:= !ae9 a b p&&onE a b p
def adG (a b:Pt) (l:List Pt):List Pt:=adU a b (XE (onQ a b) l l.length)
theorem Z4.mem {l:List Pt} (hl:Z4 l) {x:Pt} (hx:x∈l):dJ x=true:=by
 obtain⟨k,hk,e⟩:=List.mem_iff_getElem.1 hx
 have:=hl.ok k (by omega) (by unfold aY;omega)
 rwa [eD hk,e] at this
def adP (l:List Pt):Bool:=dX l&&decide (l.Pairwise fun a b=>iQ a b < 0)
theorem VH {l:List Pt} :Z4 l↔(∀ x,x∈l→dJ x=true)∧l.Pairwise fun a b=>iQ a b < 0:=by
 rw[List.pairwise_iff_getElem]
 constructor
 ·intro h
  refine⟨fun x hx=>h.mem hx,fun i j hi hj hij=>?_⟩
  have:=h.lt i j (by omega) (by omega) (by unfold aY;omega)
  rwa [eD hi,eD hj] at this
 ·rintro⟨h1,h2⟩
  refine⟨fun k k0 k1=>?_,fun i j i0 ij j1=>?_⟩
  ·unfold aY at k1
   have hk:k.toNat < l.length:=by omega
   have:pC l k=l[k.toNat]:=by rw[← eD hk,Int.toNat_of_nonneg k0]
   rw[this];exact h1 _ (List.getElem_mem hk)
  ·unfold aY at j1
   have hi:i.toNat < l.length:=by omega
   have hj:j.toNat < l.length:=by omega
   have ei:pC l i=l[i.toNat]:=by rw[← eD hi,Int.toNat_of_nonneg i0]
   have ej:pC l j=l[j.toNat]:=by rw[← eD hj,Int.toNat_of_nonneg (by omega)]
   rw[ei,ej]
   exact h2 _ _ hi hj (by omega)
def ad5 (l:List Pt) (p:Pt):List Pt:=if i8 l p then l else(l.take (r5 l p).toNat++[p])++l.drop (r5 l p).toNat
def ac3 (l:List Pt):Nat→List Pt
 | 0=>[]
 | k+1=>if dJ (pC l k) then ad5 (ac3 l k) (pC l k) else ac3 l k
theorem adJ {l:List Pt} (hl:Z4 l) {p:Pt} (hp:dJ p=true):Z4 (ad5 l p):=by
 unfold ad5
 cases ht:i8 l p
 ·simp only[Bool.false_eq_true,if_false]
  have pb:=UV l p
  have hlt:=acW hl hp
  obtain⟨r1,r2⟩:=VH.1 hl
  have lo: ∀ x,x∈l.take (r5 l p).toNat→iQ x p < 0:=fun x hx=>by
   obtain⟨k,hk,e⟩:=List.mem_iff_getElem.1 hx
   rw[List.length_take] at hk
   rw[List.getElem_take] at e
   have:=hlt.1 k (by omega) (by omega)
   rwa [eD (by omega),e] at this
  have hi: ∀ x,x∈l.drop (r5 l p).toNat→iQ p x < 0:=fun x hx=>by
   obtain⟨k,hk,e⟩:=List.mem_iff_getElem.1 hx
   rw[List.length_drop] at hk
   rw[List.getElem_drop] at e
   have hle:aY l=(l.length:Int):=rfl
   have h1:=hlt.2 (r5 l p) (Int.le_refl _) (by omega)
   have h0:iQ p (pC l (r5 l p)) < 0:=by
    unfold i8 at ht
    rw[decide_eq_true (show r5 l p < aY l by omega),Bool.true_and,decide_eq_false_iff_not,VJ (hl.ok _ pb.1 (by omega)) hp] at ht
    rw[ac2] at h1 ⊢
    rw[adE] at ht
    grind
   by_cases hk0:k=0
   ·subst hk0
    rw[← e, ← eD (by omega)]
    rwa [show(((r5 l p).toNat+0:Nat):Int)=r5 l p by omega]
   ·have h2:=hl.lt (r5 l p) (r5 l p+k) pb.1 (by omega) (by omega)
    have h3:=tV h0 h2
    rw[← e, ← eD (by omega)]
    rwa [show(((r5 l p).toNat+k:Nat):Int)=r5 l p+k by omega]
  refine VH.2 ⟨fun x hx=>?_,?_⟩
  ·rw[List.mem_append,List.mem_append,List.mem_singleton] at hx
   rcases hx with (hx | hx) | hx
   ·exact r1 x (List.mem_of_mem_take hx)
   ·rw[hx];exact hp
   ·exact r1 x (List.mem_of_mem_drop hx)
  ·rw[List.append_assoc,List.pairwise_append]
   refine⟨r2.sublist (List.take_sublist _ _),?_,fun a ha b hb=>?_⟩
   ·rw[List.singleton_append,List.pairwise_cons]
    exact⟨hi,r2.sublist (List.drop_sublist _ _)⟩
   ·rw[List.singleton_append,List.mem_cons] at hb
    rcases hb with rfl | hb
    ·exact lo a ha
    ·exact tV (lo a ha) (hi b hb)
 ·simp only[if_true];exact hl
theorem Vi (l:List Pt): ∀ k,Z4 (ac3 l k)
 | 0=>VH.2 ⟨fun x hx=>(by cases hx),List.Pairwise.nil⟩
 | k+1=>by
  unfold ac3
  split
  ·rename_i h;exact adJ (Vi l k) h
  ·exact Vi l k
theorem ad6 (l:List Pt) (p:Pt):(ad5 l p).length≤l.length+1:=by
 unfold ad5
 split
 ·omega
 ·rw[List.length_append,List.length_append,List.length_take,List.length_drop];simp;omega
theorem acO (l:List Pt): ∀ k,(ac3 l k).length≤k
 | 0=>Nat.le_refl _
 | k+1=>by
  have:=acO l k
  unfold ac3
  split
  ·have:=ad6 (ac3 l k) (pC l k);omega
  ·omega
def afA (p0 p1 p2 p3:Pt):List Pt:=(((if p0≠p3 then[p0] else[])++(if p1≠p0 then[p1] else[]))++(if p2≠p1 then[p2] else[]))++(if p3≠p2 then[p3] else[])
def ZX (u v w:Pt):List Pt:=afA ⟨u.X,v.X⟩ ⟨u.Y,w.X⟩ ⟨u.Y,w.Y⟩ ⟨u.X,v.Y⟩
def acX (f:Pt→Pt→List Pt) (c:List Pt):Nat→List Pt
 | 0=>[]
 | k+1=>(acX f c k++[pC c k])++f (pC c k) (pC c (((k:Int)+1) % aY c))
def acJ (u v w:Pt):Bool:=(((((aO.safe u.X 12&&aO.safe u.Y 12)&&aO.safe v.X 12)&&aO.safe v.Y 12)&&aO.safe w.X 12)&&aO.safe w.Y 12)&&(((decide (aO.cmp u.X u.Y < 0)&&decide (aO.cmp v.X v.Y≤0))&&decide (aO.cmp w.X w.Y≤0))&&(decide (aO.cmp v.X v.Y < 0)||decide (aO.cmp w.X w.Y < 0)))
structure SP where
 rise:List Pt→Bool
 pos:List Pt→Pt→Int
 there:List Pt→Pt→Bool
 fr:Pt→Pt→List Pt→Int
 to:Pt→Pt→List Pt→Int
 lo:Pt→Pt→Pt
 hi:Pt→Pt→Pt
 amg:Pt→Pt→List Pt→List Pt
 on:Pt→Pt→Pt→Bool
 onq:Pt→Pt→Pt→Bool
 btw:Pt→Pt→List Pt→List Pt
 btwq:Pt→Pt→List Pt→List Pt
 srt:List Pt→List Pt
 rv:List Pt→List Pt
 cor:Pt→Pt→Pt→List Pt
 rim:Pt→Pt→Pt→List Pt→List Pt
 ring:Pt→Pt→Pt→List Pt→List Pt
 find:List Pt→Pt→Int
 same:List Pt→List Pt→Bool
 good:Pt→Pt→Pt→Bool
def f7:SP where
 rise:=adP
 pos:=r5
 there:=i8
 fr:=frP
 to:=toP
 lo:=loP
 hi:=hiP
 amg:=ZU
 on:=onE
 onq:=onQ
 btw:=aaS
 btwq:=adG
 srt l:=ac3 l l.length
 rv l:=l.reverse
 cor:=ZX
 rim u v w n:=acX (fun a b=>aaS a b n) (ZX u v w) (ZX u v w).length
 ring u v w n:=acX (fun a b=>adG a b n) (ZX u v w) (ZX u v w).length
 find l p:=if dJ p&&i8 l p then r5 l p else -1
 same a b:=decide (a=b)
 good:=acJ
end Go.Eng
