
import Derived.Test.YtekohdfjkmdlpaaSpecU5
set_option linter.all false
set_option exponentiation.threshold 3000
namespace Go.Eng
set_option maxRecDepth 100000
set_option maxHeartbeats 2000000
theorem eS (a b:Int):(a < b∧sgn a b= -1)∨(a=b∧sgn a b=0)∨(b < a∧sgn a b=1):=by
 unfold sgn
 split
 ·exact .inl ⟨by assumption,rfl⟩
 ·split
  ·exact .inr (.inr ⟨by omega,rfl⟩)
  ·exact .inr (.inl ⟨by omega,rfl⟩)
theorem s9 {c z:Int} (h:0 < c):sgn (c*z) 0=sgn z 0:=by
 rcases Int.lt_trichotomy z 0 with h1 | h1 | h1
 ·have:c*z < 0:=Int.mul_neg_of_pos_of_neg h h1
  rcases eS (c*z) 0 with ⟨_,e⟩ | ⟨_,e⟩ | ⟨_,e⟩ <;> rcases eS z 0 with ⟨_,f⟩ | ⟨_,f⟩ | ⟨_,f⟩ <;> first | (rw[e,f];done) | (exfalso;omega)
 ·subst h1;rw[Int.mul_zero]
 ·have:0 < c*z:=Int.mul_pos h h1
  rcases eS (c*z) 0 with ⟨_,e⟩ | ⟨_,e⟩ | ⟨_,e⟩ <;> rcases eS z 0 with ⟨_,f⟩ | ⟨_,f⟩ | ⟨_,f⟩ <;> first | (rw[e,f];done) | (exfalso;omega)
theorem TJ (z:Int):sgn (-z) 0= -sgn z 0:=by
 rcases eS (-z) 0 with ⟨_,e⟩ | ⟨_,e⟩ | ⟨_,e⟩ <;> rcases eS z 0 with ⟨_,f⟩ | ⟨_,f⟩ | ⟨_,f⟩ <;> first | (rw[e,f];done) | (rw[e,f];rfl) | (exfalso;omega)
theorem m8 {c z:Int} (h:c < 0):sgn (c*z) 0= -sgn z 0:=by
 have:c*z= -((-c)*z):=by rw[Int.neg_mul,Int.neg_neg]
 rw[this,TJ,s9 (by omega)]
section
variable {V:List (Int×Int×Int)} (hb:pV V)
include hb
theorem Uz {a b:Int} (c:Int) (hy:ayV V a=ayV V b) (hx:axV V a≠axV V b):tV V a b c=(if axV V a < axV V b then 1 else -1)*sgn (ayV V c - ayV V a) 0:=by
 rw[EH hb]
 unfold crI
 rw[hy,Int.sub_self,Int.zero_mul,Int.sub_zero]
 split
 ·rw[s9 (by omega),Int.one_mul]
 ·rw[m8 (by omega)];omega
theorem UA {a b:Int} (c:Int) (hx:axV V a=axV V b) (hy:ayV V a≠ayV V b):tV V a b c=(if ayV V a < ayV V b then -1 else 1)*sgn (axV V c - axV V a) 0:=by
 rw[EH hb]
 unfold crI
 rw[hx,Int.sub_self,Int.zero_mul,Int.zero_sub,TJ]
 split
 ·rw[s9 (by omega)];omega
 ·rw[m8 (by omega)];omega
theorem UD (a b c:Int):onV V a b c=true↔tV V a b c=0∧(axV V a≤axV V c∨axV V b≤axV V c)∧(axV V c≤axV V a∨axV V c≤axV V b)∧(ayV V a≤ayV V c∨ayV V b≤ayV V c)∧(ayV V c≤ayV V a∨ayV V c≤ayV V b):=by
 unfold onV
 rw[Nv,Nx,Nv,Nx]
 simp only[Bool.and_eq_true,Bool.or_eq_true,decide_eq_true_eq]
 rfl
theorem sg0 (x y:Int):sgn (x - y) 0=0↔x=y:=by
 rcases eS (x - y) 0 with ⟨_,e⟩ | ⟨_,e⟩ | ⟨_,e⟩ <;> rw[e] <;> omega
theorem L5 {a b:Int} (c:Int) (hy:ayV V a=ayV V b) (hx:axV V a≠axV V b):onV V a b c=true↔ayV V c=ayV V a∧(axV V a≤axV V c∨axV V b≤axV V c)∧(axV V c≤axV V a∨axV V c≤axV V b):=by
 rw[UD hb,Uz hb c hy hx]
 have:=sg0 hb (ayV V c) (ayV V a)
 split <;> omega
theorem L6 {a b:Int} (c:Int) (hx:axV V a=axV V b) (hy:ayV V a≠ayV V b):onV V a b c=true↔axV V c=axV V a∧(ayV V a≤ayV V c∨ayV V b≤ayV V c)∧(ayV V c≤ayV V a∨ayV V c≤ayV V b):=by
 rw[UD hb,UA hb c hx hy]
 have:=sg0 hb (axV V c) (axV V a)
 split <;> omega
theorem A5 {a b:Int} (c d:Int) (hy:ayV V a=ayV V b) (hx:axV V a≠axV V b):decide (Kd (tV V a b c) (tV V a b d) < 0)=true↔(ayV V c < ayV V a∧ayV V a < ayV V d)∨(ayV V d < ayV V a∧ayV V a < ayV V c):=by
 rw[Uz hb c hy hx,Uz hb d hy hx,decide_eq_true_eq]
 rcases eS (ayV V c - ayV V a) 0 with ⟨h1,e⟩ | ⟨h1,e⟩ | ⟨h1,e⟩ <;> rcases eS (ayV V d - ayV V a) 0 with ⟨h2,f⟩ | ⟨h2,f⟩ | ⟨h2,f⟩ <;> rw[e,f] <;> by_cases h:axV V a < axV V b <;> simp only[h,if_true,if_false] <;> constructor <;> intro hh <;> first | omega | (exact absurd hh (by decide)) | decide
theorem A6 {a b:Int} (c d:Int) (hx:axV V a=axV V b) (hy:ayV V a≠ayV V b):decide (Kd (tV V a b c) (tV V a b d) < 0)=true↔(axV V c < axV V a∧axV V a < axV V d)∨(axV V d < axV V a∧axV V a < axV V c):=by
 rw[UA hb c hx hy,UA hb d hx hy,decide_eq_true_eq]
 rcases eS (axV V c - axV V a) 0 with ⟨h1,e⟩ | ⟨h1,e⟩ | ⟨h1,e⟩ <;> rcases eS (axV V d - axV V a) 0 with ⟨h2,f⟩ | ⟨h2,f⟩ | ⟨h2,f⟩ <;> rw[e,f] <;> by_cases h:ayV V a < ayV V b <;> simp only[h,if_true,if_false] <;> constructor <;> intro hh <;> first | omega | (exact absurd hh (by decide)) | decide
def TO (V:List (Int×Int×Int)) (a b c d:Int):Prop:=
 ((axV V a≤axV V c∨axV V a≤axV V d)∨(axV V b≤axV V c∨axV V b≤axV V d))∧((axV V c≤axV V a∨axV V c≤axV V b)∨(axV V d≤axV V a∨axV V d≤axV V b))∧
 ((ayV V a≤ayV V c∨ayV V a≤ayV V d)∨(ayV V b≤ayV V c∨ayV V b≤ayV V d))∧((ayV V c≤ayV V a∨ayV V c≤ayV V b)∨(ayV V d≤ayV V a∨ayV V d≤ayV V b))
def flat (V:List (Int×Int×Int)) (a b:Int):Prop:=(ayV V a=ayV V b∧axV V a≠axV V b)∨(axV V a=axV V b∧ayV V a≠ayV V b)
theorem L7 {S:List (Int×Int×Int)} {i j:Int} (h1:flat V (cK S i).1 (cK S i).2.1) (h2:flat V (cK S j).1 (cK S j).2.1) (n1:(cK S j).1≠(cK S i).1) (n2:(cK S j).1≠(cK S i).2.1) (n3:(cK S j).2.1≠(cK S i).1) (n4:(cK S j).2.1≠(cK S i).2.1) :
  j4 V S i j=true↔TO V (cK S i).1 (cK S i).2.1 (cK S j).1 (cK S j).2.1:=by
 unfold j4 isEnd
 simp only[decide_eq_false n1,decide_eq_false n2,decide_eq_false n3,decide_eq_false n4,decide_eq_false (Ne.symm n1),decide_eq_false (Ne.symm n2),decide_eq_false (Ne.symm n3),decide_eq_false (Ne.symm n4),Bool.or_false,Bool.false_and,Bool.false_or,Bool.not_false,Bool.and_true,Bool.or_eq_true,Bool.and_eq_true]
 generalize (cK S i).1=a at *
 generalize (cK S i).2.1=b at *
 generalize (cK S j).1=c at *
 generalize (cK S j).2.1=d at *
 unfold TO
 rcases h1 with ⟨hy,hx⟩ | ⟨hx,hy⟩ <;> rcases h2 with ⟨gy,gx⟩ | ⟨gx,gy⟩
 ·rw[L5 hb c hy hx,L5 hb d hy hx,L5 hb a gy gx,L5 hb b gy gx,A5 hb c d hy hx,A5 hb a b gy gx];omega
 ·rw[L5 hb c hy hx,L5 hb d hy hx,L6 hb a gx gy,L6 hb b gx gy,A5 hb c d hy hx,A6 hb a b gx gy];omega
 ·rw[L6 hb c hx hy,L6 hb d hx hy,L5 hb a gy gx,L5 hb b gy gx,A6 hb c d hx hy,A5 hb a b gy gx];omega
 ·rw[L6 hb c hx hy,L6 hb d hx hy,L6 hb a gx gy,L6 hb b gx gy,A6 hb c d hx hy,A6 hb a b gx gy];omega
theorem u4 {S:List (Int×Int×Int)} {i j a b c d m k:Int} (hi:cK S i=(a,b,m)) (hj:cK S j=(c,d,k)) (h1:flat V a b) (h2:flat V c d) (n1:c≠a) (n2:c≠b) (n3:d≠a) (n4:d≠b):j4 V S i j=true↔TO V a b c d:=by
 have:=L7 (S:=S) (i:=i) (j:=j) hb
 rw[hi,hj] at this
 exact this h1 h2 n1 n2 n3 n4
theorem TK (a b:Int):tV V a b a=0∧tV V a b b=0:=by
 rw[EH hb,EH hb]
 unfold crI
 constructor
 ·rw[Int.sub_self,Int.sub_self,Int.mul_zero,Int.mul_zero];rfl
 ·rw[Int.mul_comm,Int.sub_self];rfl
def A8 (V:List (Int×Int×Int)) (a b c d:Int):Prop:=(ayV V a=ayV V b∧axV V a≠axV V b∧axV V c=axV V d∧ayV V c≠ayV V d)∨(axV V a=axV V b∧ayV V a≠ayV V b∧ayV V c=ayV V d∧axV V c≠axV V d)
theorem m9 {S:List (Int×Int×Int)} {i j a b c m k:Int} (hi:cK S i=(a,b,m)) (hj:cK S j=(c,a,k)) (h:A8 V a b c a) (n1:c≠a) (n2:c≠b) (n3:a≠b):j4 V S i j=false:=by
 have z:=(TK hb a b).1
 have e1:onV V a b c=false:=by
  rw[← Bool.not_eq_true]
  intro hh
  rcases h with ⟨h1,h2,h3,h4⟩ | ⟨h1,h2,h3,h4⟩
  ·exact h4 ((L5 hb c h1 h2).1 hh).1
  ·exact h4 ((L6 hb c h1 h2).1 hh).1
 have e2:onV V c a b=false:=by
  rw[← Bool.not_eq_true]
  intro hh
  rcases h with ⟨h1,h2,h3,h4⟩ | ⟨h1,h2,h3,h4⟩
  ·have:=((L6 hb b h3 h4).1 hh).1;omega
  ·have:=((L5 hb b h3 h4).1 hh).1;omega
 unfold j4 isEnd
 rw[hi,hj]
 have m0: ∀ t,Kd t 0=0:=fun t=>by show IntKind.i64.wrap (t*0)=0;rw[Int.mul_zero];rfl
 simp only[e1,e2,z,m0,decide_eq_false n1,decide_eq_false n2,decide_eq_false n3,decide_eq_false (Ne.symm n1),Int.lt_irrefl]
 simp
theorem TP {S:List (Int×Int×Int)} {i j a b d m k:Int} (hi:cK S i=(a,b,m)) (hj:cK S j=(b,d,k)) (h:A8 V a b b d) (n1:d≠a) (n2:d≠b) (n3:a≠b):j4 V S i j=false:=by
 have z:=(TK hb a b).2
 have e1:onV V a b d=false:=by
  rw[← Bool.not_eq_true]
  intro hh
  rcases h with ⟨h1,h2,h3,h4⟩ | ⟨h1,h2,h3,h4⟩
  ·have:=((L5 hb d h1 h2).1 hh).1;omega
  ·have:=((L6 hb d h1 h2).1 hh).1;omega
 have e2:onV V b d a=false:=by
  rw[← Bool.not_eq_true]
  intro hh
  rcases h with ⟨h1,h2,h3,h4⟩ | ⟨h1,h2,h3,h4⟩
  ·have:=((L6 hb a h3 h4).1 hh).1;omega
  ·have:=((L5 hb a h3 h4).1 hh).1;omega
 unfold j4 isEnd
 rw[hi,hj]
 have m0: ∀ t,Kd 0 t=0:=fun t=>by show IntKind.i64.wrap (0*t)=0;rw[Int.zero_mul];rfl
 simp only[e1,e2,z,m0,decide_eq_false n1,decide_eq_false n2,decide_eq_false n3,decide_eq_false (Ne.symm n1),decide_eq_false (Ne.symm n3),Int.lt_irrefl]
 simp
end
end Go.Eng

