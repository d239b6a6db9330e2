
import Derived.Test.YtbfknjpggfkgjaaGreatSpecR8
set_option linter.all false
set_option exponentiation.threshold 3000
namespace Go.Eng
theorem atX (L:List (Int×Int)) (x y a b:Int):aoG (L++[(x,y)]) a b=aoG L a b+(if x=a∧y=b then 1 else 0):=by
 unfold aoG
 rw[List.countP_append,List.countP_singleton]
 by_cases h:x=a∧y=b
 ·obtain⟨rfl,rfl⟩:=h
  simp
 ·rw[if_neg h,if_neg]
  ·simp
  ·simp only[decide_eq_true_eq,Prod.mk.injEq];exact h
theorem atZ (L:List (Int×Int)) (a b:Int):0≤aoG L a b∧aoG L a b≤L.length:=by
 unfold aoG
 have:=List.countP_le_length (p:=fun x=>decide (x=(a,b))) (l:=L)
 omega
theorem at3 (E L:List (Int×Int)) (x y:Int):aq1 E (L++[(x,y)])=aq1 E L+(1 - aoG E y x):=by
 unfold aq1
 rw[List.map_append,List.sum_append];simp
theorem atY: ∀ T:List I3,(aoL T).length=3*T.length
 | []=>rfl
 | t :: T=>by
  have:=atY T
  unfold aoL at *
  rw[List.flatMap_cons,List.length_append,this,List.length_cons]
  show 3+_=_;omega
theorem atU (T:List I3) (i:Nat) (hi:i < T.length):aoL (T.take (i+1))=aoL (T.take i)++asU T[i]:=by
 unfold aoL
 rw[List.take_succ_eq_append_getElem hi,List.flatMap_append]
 simp
def edK (t:I3) (k:Int):Int×Int:=if k=0 then(t.1,t.2.1) else if k=1 then(t.2.1,t.2.2) else(t.2.2,t.1)
theorem atV (t:I3) (k:Int) (h0:0≤k) (h:k < 3):(asU t).take (k+1).toNat=(asU t).take k.toNat++[edK t k]:=by
 have:k=0∨k=1∨k=2:=by omega
 rcases this with rfl | rfl | rfl <;> rfl
theorem auG (T:List I3) (i:Nat) (hi:i < T.length) (k:Int) (h0:0≤k) (h:k < 3):edK T[i] k∈aoL T:=by
 have h1:edK T[i] k∈asU T[i]:=by
  have:k=0∨k=1∨k=2:=by omega
  rcases this with rfl | rfl | rfl <;> simp[edK,asU]
 exact List.mem_flatMap.2 ⟨_,List.getElem_mem hi,h1⟩
structure J1 (T:List I3) (i o:Int):Prop where
 i0:0≤i
 i1:i≤(T.length:Int)
 e:o=aq1 (aoL T) (aoL (T.take i.toNat))
 b: -1000≤o∧o≤3*i
structure J2 (T:List I3) (i k o:Int):Prop where
 k0:0≤k
 k1:k≤3
 e:o=aq1 (aoL T) (aoL (T.take i.toNat)++(asU (T.getD i.toNat (0,0,0))).take k.toNat)
 b: -1000≤o∧o≤3*i+k
structure J3 (T:List I3) (a b:Int) (j p q:Int):Prop where
 j0:0≤j
 j1:j≤(T.length:Int)
 p:p=aoG (aoL (T.take j.toNat)) a b
 q:q=aoG (aoL (T.take j.toNat)) b a
structure J4 (T:List I3) (a b:Int) (j h p q:Int):Prop where
 h0:0≤h
 h1:h≤3
 p:p=aoG (aoL (T.take j.toNat)++(asU (T.getD j.toNat (0,0,0))).take h.toNat) a b
 q:q=aoG (aoL (T.take j.toNat)++(asU (T.getD j.toNat (0,0,0))).take h.toNat) b a
theorem atO (T:List I3) (a b:Int):J3 T a b 0 0 0:=⟨Int.le_refl _,Int.natCast_nonneg _,rfl,rfl⟩
theorem atP {T:List I3} {a b j p q:Int} (h:J3 T a b j p q):J4 T a b j 0 p q:=
 ⟨Int.le_refl _,by decide,by rw[show(0:Int).toNat=0 from rfl,List.take_zero,List.append_nil];exact h.p,by rw[show(0:Int).toNat=0 from rfl,List.take_zero,List.append_nil];exact h.q⟩
theorem atW {T:List I3} {i:Int} (h0:0≤i) (h:i < (T.length:Int)):T.getD i.toNat (0,0,0)=T[i.toNat]'(by omega):=by
 rw[List.getD_eq_getElem?_getD,List.getElem?_eq_getElem (by omega)];rfl
theorem atS {T:List I3} {a b j p q:Int} (j0:0≤j) (hj:j < (T.length:Int)) (h:J4 T a b j 3 p q):J3 T a b (j+1) p q:=by
 have e:aoL (T.take (j+1).toNat)=aoL (T.take j.toNat)++(asU (T.getD j.toNat (0,0,0))).take (3:Int).toNat:=by
  rw[show(j+1).toNat=j.toNat+1 by omega,atU T j.toNat (by omega),atW j0 hj]
  rfl
 exact⟨by omega,by omega,by rw[e];exact h.p,by rw[e];exact h.q⟩
theorem at9 {T:List I3} {a b j h p q:Int} (hJ:J4 T a b j h p q) (hh:h < 3) :
  J4 T a b j (h+1) (p+(if(edK (T.getD j.toNat (0,0,0)) h).1=a∧(edK (T.getD j.toNat (0,0,0)) h).2=b then 1 else 0)) (q+(if(edK (T.getD j.toNat (0,0,0)) h).1=b∧(edK (T.getD j.toNat (0,0,0)) h).2=a then 1 else 0)):=by
 have h0:=hJ.h0
 refine⟨by omega,by omega,?_,?_⟩
 ·rw[atV _ h h0 hh, ← List.append_assoc,hJ.p, ← atX]
 ·rw[atV _ h h0 hh, ← List.append_assoc,hJ.q, ← atX]
theorem auH {T:List I3} {a b j h p q:Int} (hJ:J4 T a b j h p q) (hl:(T.length:Int) < 100):0≤p∧p≤400∧0≤q∧q≤400:=by
 have l1:(aoL (T.take j.toNat)++(asU (T.getD j.toNat (0,0,0))).take h.toNat).length≤400:=by
  rw[List.length_append,atY,List.length_take,List.length_take]
  have:(asU (T.getD j.toNat (0,0,0))).length=3:=rfl
  omega
 have a1:=atZ (aoL (T.take j.toNat)++(asU (T.getD j.toNat (0,0,0))).take h.toNat) a b
 have a2:=atZ (aoL (T.take j.toNat)++(asU (T.getD j.toNat (0,0,0))).take h.toNat) b a
 rw[← hJ.p] at a1
 rw[← hJ.q] at a2
 omega
theorem atR {T:List I3} {a b j p q:Int} (h:J3 T a b j p q) (hj: ¬ j < (T.length:Int)):p=aoG (aoL T) a b∧q=aoG (aoL T) b a:=by
 have h1:=h.j1
 have e:T.take j.toNat=T:=List.take_of_length_le (by omega)
 have hp:=h.p
 have hq:=h.q
 rw[e] at hp hq
 exact⟨hp,hq⟩
theorem at0 (T:List I3):J1 T 0 0:=⟨Int.le_refl _,Int.natCast_nonneg _,rfl,by decide⟩
theorem at2 {T:List I3} {i o:Int} (h:J1 T i o):J2 T i 0 o:=
 ⟨Int.le_refl _,by decide,by rw[show(0:Int).toNat=0 from rfl,List.take_zero,List.append_nil];exact h.e,by have:=h.b;omega⟩
theorem auF {T:List I3} {want:Int} (F:anU T want) {i k:Int} (i0:0≤i) (hi:i < (T.length:Int)) (k0:0≤k) (hk:k < 3):aoG (aoL T) (edK (T.getD i.toNat (0,0,0)) k).1 (edK (T.getD i.toNat (0,0,0)) k).2=1∧0≤aoG (aoL T) (edK (T.getD i.toNat (0,0,0)) k).2 (edK (T.getD i.toNat (0,0,0)) k).1∧aoG (aoL T) (edK (T.getD i.toNat (0,0,0)) k).2 (edK (T.getD i.toNat (0,0,0)) k).1≤1:=by
 rw[atW i0 hi]
 have:=F.one _ (auG T i.toNat (by omega) k k0 hk)
 exact⟨this.1,(atZ _ _ _).1,this.2⟩
theorem at8 {T:List I3} {i k o:Int} (i0:0≤i) (hJ:J2 T i k o) (hk:k < 3) (hq:0≤aoG (aoL T) (edK (T.getD i.toNat (0,0,0)) k).2 (edK (T.getD i.toNat (0,0,0)) k).1∧aoG (aoL T) (edK (T.getD i.toNat (0,0,0)) k).2 (edK (T.getD i.toNat (0,0,0)) k).1≤1) :
  J2 T i (k+1) (o+1 - aoG (aoL T) (edK (T.getD i.toNat (0,0,0)) k).2 (edK (T.getD i.toNat (0,0,0)) k).1):=by
 have h0:=hJ.k0
 have hb:=hJ.b
 refine⟨by omega,by omega,?_,by omega⟩
 rw[atV _ k h0 hk, ← List.append_assoc,show edK (T.getD i.toNat (0,0,0)) k=((edK (T.getD i.toNat (0,0,0)) k).1,(edK (T.getD i.toNat (0,0,0)) k).2) from rfl,at3, ← hJ.e]
 exact Int.add_sub_assoc o 1 _
theorem at7 {T:List I3} {i o:Int} (i0:0≤i) (hi:i < (T.length:Int)) (h:J2 T i 3 o):J1 T (i+1) o:=by
 have e:aoL (T.take (i+1).toNat)=aoL (T.take i.toNat)++(asU (T.getD i.toNat (0,0,0))).take (3:Int).toNat:=by
  rw[show(i+1).toNat=i.toNat+1 by omega,atU T i.toNat (by omega),atW i0 hi]
  rfl
 exact⟨by omega,by omega,by rw[e];exact h.e,by have:=h.b;omega⟩
theorem at6 {T:List I3} {want i o:Int} (F:anU T want) (h:J1 T i o) (hi: ¬ i < (T.length:Int)):o=7:=by
 have h1:=h.i1
 rw[h.e,List.take_of_length_le (by omega)]
 exact F.out
end Go.Eng
