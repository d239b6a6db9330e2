
import Derived.Test.YtklnlmebjeoidaaGreatSpecP3
set_option linter.all false
set_option exponentiation.threshold 3000
set_option maxRecDepth 100000
set_option maxHeartbeats 2000000
namespace Go.Eng
theorem ag0 {t s dx dy:Rat} (hd:0 < dx∨(dx=0∧0 < dy)) (h:t*dx < s*dx∨(t*dx=s*dx∧t*dy < s*dy)):t < s:=by
 by_cases hts:t < s
 ·exact hts
 exfalso
 have hts:0≤t - s:=by grind
 rcases hd with hd | ⟨hd,he⟩
 ·have p:=nn hts (show 0≤dx by grind)
  rcases h with h | ⟨h1,h2⟩
  ·grind
  ·rcases Rat.mul_eq_zero.1 (show(t - s)*dx=0 by grind) with h | h
   ·have:t=s:=by grind
    subst this;grind
   ·grind
 ·have p:=nn hts (show 0≤dy by grind)
  rcases h with h | ⟨h1,h2⟩
  ·rw[hd] at h;grind
  ·grind
theorem agV {t s dx dy:Rat} (t0:0≤t) (hd:0 < dx*dx+dy*dy) (h:t < s):t*dx*(t*dx)+t*dy*(t*dy) < s*dx*(s*dx)+s*dy*(s*dy):=by
 have p:=pp (show 0 < s - t by grind) (show 0 < s+t by grind)
 have q:=pp p hd
 grind
theorem agO {a b x y:Pt} (hx:onP a b x=true) (hy:onP a b y=true) (h:(iQ a b < 0∧iQ x y < 0)∨(iQ a b > 0∧iQ x y > 0)):gY a x x < gY a y y:=by
 obtain⟨h1,h2⟩:=D0.1 hx
 obtain⟨h3,h4⟩:=D0.1 hy
 unfold bB at h1 h3
 unfold gY at h2 h4
 obtain⟨t,t0,t1,ex,ey⟩:=Zq h1 h2
 obtain⟨s,s0,s1,fx,fy⟩:=Zq h3 h4
 rw[ac2,ac2,adC,adC] at h
 unfold gY
 rw[← ex, ← ey, ← fx, ← fy] at h ⊢
 clear h1 h2 h3 h4 ex ey fx fy hx hy
 generalize px a=ax at *
 generalize py a=ay at *
 generalize px b=bx at *
 generalize py b=by_ at *
 have e: ∀ (u z d:Rat),z+u*d - z=u*d:=fun u z d=>by grind
 rw[e,e,e,e]
 generalize hdx:bx - ax=dx at *
 generalize hdy:by_ - ay=dy at *
 have sq:0 < dx∨dx < 0∨(dx=0∧(0 < dy∨dy < 0))→0 < dx*dx+dy*dy:=fun g=>by
  have a1:=Yu dx
  have a2:=Yu dy
  rcases g with g | g | ⟨g,g | g⟩
  ·have:=pp g g;grind
  ·have:=pp (show 0 < -dx by grind) (show 0 < -dx by grind);grind
  ·have:=pp g g;grind
  ·have:=pp (show 0 < -dy by grind) (show 0 < -dy by grind);grind
 rcases h with ⟨g1,g2⟩ | ⟨g1,g2⟩
 ·have hd:0 < dx∨(dx=0∧0 < dy):=by rcases g1 with g | ⟨g,g'⟩ <;> grind
  refine agV t0 (sq (by grind)) (ag0 hd ?_)
  rcases g2 with g | ⟨g,g'⟩
  ·left;grind
  ·right;constructor <;> grind
 ·have hd:0 < -dx∨(-dx=0∧0 < -dy):=by rcases g1 with g | ⟨g,g'⟩ <;> grind
  refine agV t0 (sq (by grind)) (ag0 (dx:= -dx) (dy:= -dy) hd ?_)
  rcases g2 with g | ⟨g,g'⟩
  ·left;grind
  ·right;constructor <;> grind
theorem acA {a b x:Pt} (h:onE a b x=true):dJ a=true∧dJ b=true∧dJ x=true∧onP a b x=true∧x≠a∧x≠b:=by
 unfold onE at h
 simp only[Bool.and_eq_true,Bool.not_eq_true',decide_eq_false_iff_not] at h
 have hh:([a,b,x].all dJ)=true:=h.1.1
 simp only[List.all_cons,List.all_nil,Bool.and_true,Bool.and_eq_true] at hh
 exact⟨hh.1,hh.2.1,hh.2.2,h.1.2,h.2.1,h.2.2⟩
theorem agU (a b x:Pt):onE a b x=onE b a x:=by
 have h: ∀ a b,onE a b x=true→onE b a x=true:=fun a b h=>by
  obtain⟨h1,h2,h3,h4,h5,h6⟩:=acA h
  unfold onE
  rw[AL h2 h1 h3,wF,h4,decide_eq_false h5,decide_eq_false h6];rfl
 cases h1:onE a b x
 ·cases h2:onE b a x
  ·rfl
  ·rw[h b a h2] at h1;cases h1
 ·rw[h a b h1]
theorem agS {a b x:Pt} (h:onE a b x=true):0 < gY a x x:=by
 obtain⟨h1,h2,h3,h4,h5,h6⟩:=acA h
 by_cases g:0 < gY a x x
 ·exact g
 ·exfalso
  unfold gY at g
  obtain⟨e1,e2⟩:=Hj (Rat.not_lt.1 g)
  exact h5 ((e9 h3).inj (e9 h1) (by grind) (by grind))
theorem adW (a b:Pt):iQ a b > 0↔iQ b a < 0:=by rw[adC,ac2];constructor <;> intro h <;> rcases h with h | ⟨h,h'⟩ <;> first | exact .inl h | exact .inr ⟨h.symm,h'⟩
structure ag1 (a b:Pt) (X Y:List Pt):Prop where
 back:Y=X.reverse
 far:X.Pairwise fun x y=>gY a x x < gY a y y
 on: ∀ x∈X,onE a b x=true
theorem agZ {a b:Pt} {n:List Pt} (hn:Z4 n) (ha:dJ a=true) (hb:dJ b=true):ag1 a b (aaS a b n) (aaS b a n):=by
 have e:(dX [a]&&dX [b])=true:=by unfold dX;simp[ha,hb]
 have e':(dX [b]&&dX [a])=true:=by unfold dX;simp[ha,hb]
 unfold aaS
 rw[if_pos e,if_pos e',ad0 hn ha hb,ad0 hn hb ha,acY (F:=onE b a) (G:=onE a b) fun x _=>agU b a x]
 have hZ:(n.filter (onE a b)).Pairwise fun x y=>iQ x y < 0:=((VH.1 hn).2).sublist List.filter_sublist
 have hm: ∀ x∈n.filter (onE a b),onE a b x=true:=fun x hx=>(List.mem_filter.1 hx).2
 generalize n.filter (onE a b)=Z at *
 unfold adU
 rw[VJ ha hb,VJ hb ha]
 by_cases c1:iQ a b > 0
 ·rw[if_pos c1,if_neg (show ¬ iQ b a > 0 by have:=(adW a b).1 c1;omega)]
  refine⟨by rw[List.reverse_reverse],?_,fun x hx=>hm x (List.mem_reverse.1 hx)⟩
  rw[List.pairwise_reverse]
  exact hZ.imp_of_mem fun {x y} hx hy h=>agO (acA (hm y hy)).2.2.2.1 (acA (hm x hx)).2.2.2.1 (.inr ⟨c1,(adW y x).2 h⟩)
 ·by_cases c2:iQ a b < 0
  ·rw[if_neg c1,if_pos ((adW b a).2 c2)]
   refine⟨rfl,?_,hm⟩
   exact hZ.imp_of_mem fun {x y} hx hy h=>agO (acA (hm x hx)).2.2.2.1 (acA (hm y hy)).2.2.2.1 (.inl ⟨c2,h⟩)
  ·have c3:iQ a b=0:=by omega
   obtain⟨g1,g2⟩:=adE.1 c3
   have hab:a=b:=(e9 ha).inj (e9 hb) g1 g2
   subst hab
   have hz:Z=[]:=by
    match Z,hm with
    | [],_=>rfl
    | x :: Z',hm=>
     have h:=acA (hm x (by simp))
     exact absurd (D1 (e9 ha) (e9 h.2.2.1) h.2.2.2.1) h.2.2.2.2.1
   subst hz
   refine⟨by split <;> rfl,by split <;> exact List.Pairwise.nil,fun x hx=>?_⟩
   split at hx <;> cases hx
end Go.Eng
