
import Derived.Test.YtlonkgccgccieaaCRB
import Derived.Test.YtlonkgccgccieaaSpecP3
import Derived.Test.YtlonkgccgccieaaEngZA
set_option linter.all false
set_option exponentiation.threshold 3000
set_option maxRecDepth 100000
set_option maxHeartbeats 2000000
namespace Go.Eng
open Go.Proofs
def adI (H:SH):List CV→List Blk→Option LR
 | [.g [.P x], .g [.P y]],[]=>some ⟨[], .c (.s (.int .i64 (H.cmp x y))),[]⟩
 | _,_=>none
def hA0 (A:Alg) (H:SH):List (Nat×bU):=(91,aC [.v, .v] A (CQ H)) :: ([])
structure BsJ (l:List Pt) (p:Pt) (i j:Int):Prop where
 i0:0≤i
 ij:i≤j
 j1:j≤aY l
 e: ∃ f:Nat,j - i≤f∧bsF l p f i j=r5 l p
def agF (A:Alg) (i j:Int):Int:=A.wrap .i64 (A.bin .shr .u64 (A.wrap .u64 (A.bin .add .i64 i j)) 1)
def dP (A:Alg) (l:List Pt) (k:Int):Pt:=A.get l k ⟨⟨⟨false,A.zD⟩,⟨false,A.zD⟩⟩,⟨⟨false,A.zD⟩,⟨false,A.zD⟩⟩⟩
structure BsS (A:Alg) (H:SH) (l:List Pt) (p:Pt) (i j m:Int):Prop where
 o1:A.cmp .leq 0 m=true
 o2:A.cmp .lss m (A.len l)=true
 n1:A.cmp .lss (H.cmp (dP A l m) p) 0=true→BsJ l p (A.bin .add .i64 m 1) j∧(j - A.bin .add .i64 m 1).toNat < (j - i).toNat
 n0:A.cmp .lss (H.cmp (dP A l m) p) 0=false→BsJ l p i m∧(m - i).toNat < (j - i).toNat
theorem agA {l:List Pt} {p:Pt} {i j m:Int} (hl:aY l < 1000000) (h:BsJ l p i j) (hm:i < j→m=(i+j) / 2) (A:Alg) (hA:A=aA) (H:SH) (hH:H=bD) (hb:A.cmp .lss i j=true):BsS A H l p i j m:=by
 subst hA hH
 obtain⟨i0,ij,j1,f,hf,e⟩:=h
 have hb:i < j:=of_decide_eq_true hb
 obtain⟨g,hg,eg⟩:=acQ l p hf hb
 have hm:=hm hb
 have ad:aA.bin .add .i64 m 1=m+1:=by show IntKind.i64.wrap _=_;rw[IntKind.wrap_i64];omega
 refine⟨bJ _ rfl _ _ (by omega),bH _ rfl _ _ (by show m < aY l;omega),fun h=>?_,fun h=>?_⟩
 ·have h:bD.cmp (pC l m) p < 0:=of_decide_eq_true h
  rw[ad]
  rw[hm] at h ⊢
  rw[if_pos h] at eg
  exact⟨⟨by omega,by omega,j1,g,by omega,by rw[← eg,e]⟩,by omega⟩
 ·have h: ¬ bD.cmp (pC l m) p < 0:=of_decide_eq_false h
  rw[hm] at h ⊢
  rw[if_neg h] at eg
  exact⟨⟨i0,by omega,by omega,g,by omega,by rw[← eg,e]⟩,by omega⟩
theorem afN {l:List Pt} {p:Pt} {i j:Int} (hl:aY l < 1000000) (h:BsJ l p i j) (A:Alg) (hA:A=aA):i < j→agF A i j=(i+j) / 2:=fun hb=>by
 subst hA
 obtain⟨i0,ij,j1, -⟩:=h
 show IntKind.i64.wrap ((IntKind.u64.wrap (IntKind.i64.wrap (i+j))).fdiv (2 ^ min (1:Int).toNat 64))=_
 have e1:IntKind.i64.wrap (i+j)=i+j:=by rw[IntKind.wrap_i64];omega
 have e2:IntKind.u64.wrap (i+j)=i+j:=by rw[cX];omega
 rw[e1,e2]
 have e3:(2 ^ min (1:Int).toNat 64:Int)=2:=rfl
 rw[e3,Int.fdiv_eq_ediv_of_nonneg _ (by decide),IntKind.wrap_i64]
 omega
structure BsE (A:Alg) (H:SH) (I:SP) (l:List Pt) (p:Pt) (i:Int):Prop where
 o1:A.imp (A.beq (A.cmp .lss i (A.len l)) true) (A.cmp .leq 0 i)=true
 o2:A.imp (A.beq (A.cmp .lss i (A.len l)) true) (A.cmp .lss i (A.len l))=true
 pos:i=I.pos l p
 there:A.ite (A.cmp .lss i (A.len l)) (A.cmp .eql (H.cmp (dP A l i) p) 0) false=I.there l p
theorem af9 {l:List Pt} {p:Pt} {i j:Int} (h:BsJ l p i j) (A:Alg) (hA:A=aA) (H:SH) (hH:H=bD) (I:SP) (hI:I=f7) (hb:A.cmp .lss i j=false):BsE A H I l p i:=by
 subst hA hH hI
 obtain⟨i0,ij,j1,f,hf,e⟩:=h
 have hb: ¬ i < j:=of_decide_eq_false hb
 rw[acP l p f hb] at e
 refine⟨?_,?_,e,?_⟩
 ·rw[bJ _ rfl _ _ i0];cases aA.beq _ _ <;> rfl
 ·cases aA.cmp .lss i (aA.len l) <;> rfl
 ·have ia: ∀ u v:Bool,aA.ite u v false=(u&&v):=fun u v=>by cases u <;> rfl
  rw[ia,e]
  show(decide (r5 l p < aY l)&&(bD.cmp (pC l (r5 l p)) p == 0))=(decide (r5 l p < aY l)&&decide (bD.cmp (pC l (r5 l p)) p=0))
  congr 1
theorem afX {ρ ρ':Rho} {a c:Int} {b d:Bool} (h1:a=c) (h2:b=d):(XV.t [.s (.int .i64 a), .s (.bool b)]).den ρ=(XV.t [.s (.int .i64 c), .s (.bool d)]).den ρ':=by subst h1 h2;rfl
def hA2 (A:Alg) (H:SH):List (Nat×bU):=([])
def hA3 (A:Alg) (I:SP):List (Nat×bU):=([])
end Go.Eng
