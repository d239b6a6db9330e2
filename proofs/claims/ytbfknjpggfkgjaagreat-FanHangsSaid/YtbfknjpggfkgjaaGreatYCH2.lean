
import Derived.Test.YtbfknjpggfkgjaaGreatYCH1
import Derived.Test.YtbfknjpggfkgjaaGreatYCVA
import Derived.Test.YtbfknjpggfkgjaaGreatSpecP3
set_option linter.all false
set_option exponentiation.threshold 3000
set_option maxRecDepth 100000
set_option maxHeartbeats 2000000
namespace Go.Eng
open Go.Proofs
theorem afU {ρ:Rho} {q:Nat} {x:Sc} :(XV.c (.s x)).den ρ=(XV.c (.s (.hs q))).den (nZ q [x] ρ):=(mP (i:=0) rfl).symm
def afB (A:Alg) (I:SP):List CV→List Blk→Option LR
 | [.g [.P a, .P b], .s (.hs 0)],[.vec false .pt l]=>some ⟨[A.cmp .lss (A.len l) 1000000], .c (.s (.hs 1)),[.vec false .pt (I.amg a b l)]⟩
 | _,_=>none
structure AmF (A:Alg) (I:SP) (l:List Pt) (a b u v:Pt):Prop where
 o0:A.cmp .leq 0 (I.pos l u)=true
 p0:0≤I.pos l u
 t1:I.there l v=true→A.cmp .leq (I.pos l u) (A.mx (I.pos l u) (A.bin .add .i64 (I.pos l v) 1))=true∧A.cmp .leq (A.mx (I.pos l u) (A.bin .add .i64 (I.pos l v) 1)) (A.len l)=true∧I.pos l u≤A.mx (I.pos l u) (A.bin .add .i64 (I.pos l v) 1)∧A.mx (I.pos l u) (A.bin .add .i64 (I.pos l v) 1)≤(l.length:Int)∧aA.sub l (I.pos l u) (A.mx (I.pos l u) (A.bin .add .i64 (I.pos l v) 1))=I.amg a b l
 t0:I.there l v=false→A.cmp .leq (I.pos l u) (A.mx (I.pos l u) (I.pos l v))=true∧A.cmp .leq (A.mx (I.pos l u) (I.pos l v)) (A.len l)=true∧I.pos l u≤A.mx (I.pos l u) (I.pos l v)∧A.mx (I.pos l u) (I.pos l v)≤(l.length:Int)∧aA.sub l (I.pos l u) (A.mx (I.pos l u) (I.pos l v))=I.amg a b l
theorem af6 {l:List Pt} {a b u v:Pt} (hl:aY l < 1000000) (A:Alg) (hA:A=aA) (I:SP) (hI:I=f7) (hu:u=loP a b) (hv:v=hiP a b):AmF A I l a b u v:=by
 subst hA hI hu hv
 have bd:=ae0 a b l
 have p1:=UV l (loP a b)
 have p2:=UV l (hiP a b)
 have hle:aY l=(l.length:Int):=rfl
 refine⟨bJ _ rfl _ _ p1.1,p1.1,fun h=>?_,fun h=>?_⟩
 ·have e:aA.mx (f7.pos l (loP a b)) (aA.bin .add .i64 (f7.pos l (hiP a b)) 1)=toP a b l:=by
   have:aA.bin .add .i64 (f7.pos l (hiP a b)) 1=v5 l (hiP a b)+1:=by show IntKind.i64.wrap (v5 l (hiP a b)+1)=_;rw[IntKind.wrap_i64];omega
   rw[this]
   unfold toP
   rw[show i8 l (hiP a b)=true from h]
   rfl
  rw[e]
  exact⟨bJ _ rfl _ _ bd.2.1,bJ _ rfl _ _ (by show toP a b l≤aY l;exact bd.2.2),bd.2.1,by omega,rfl⟩
 ·have e:aA.mx (f7.pos l (loP a b)) (f7.pos l (hiP a b))=toP a b l:=by
   unfold toP
   rw[show i8 l (hiP a b)=false from h]
   rfl
  rw[e]
  exact⟨bJ _ rfl _ _ bd.2.1,bJ _ rfl _ _ (by show toP a b l≤aY l;exact bd.2.2),bd.2.1,by omega,rfl⟩
theorem afM (A:Alg) (hA:A=aA) (H:SH) (hH:H=bD) (a b:Pt):(A.cmp .gtr (H.cmp a b) 0=true→b=loP a b∧a=hiP a b)∧(A.cmp .gtr (H.cmp a b) 0=false→a=loP a b∧b=hiP a b):=by
 subst hA hH
 unfold loP hiP
 refine⟨fun h=>?_,fun h=>?_⟩
 ·have h:bD.cmp a b > 0:=of_decide_eq_true h
  rw[if_pos h,if_pos h];exact⟨rfl,rfl⟩
 ·have h: ¬ bD.cmp a b > 0:=of_decide_eq_false h
  rw[if_neg h,if_neg h];exact⟨rfl,rfl⟩
def hB0 (A:Alg) (H:SH) (I:SP):List (Nat×bU):=(164,aC [.v] A (adH A H)) :: (84,aR [.a (.s .pt), .a .v, .a (.f [])] A (ae6 A I)) :: ([])
theorem ad3:COK Tryz.prog (aN (hB0 aA bD f7)):=aB aaP (aB aeR (bC))
theorem adN:aJ Tryz.prog 162 (bV [.v, .s .pt] aA (afB aA f7)):=by
 refine dM (un:=⟨false,some [0,1,2,4,5,6,7,9,10,16,31]⟩) tok ad3 aL (fn:=Tryz.f162) ?_
 intro w Wr args bs r hg ho hWr A L k hA hL hk
 obtain⟨H,hH⟩:=exE bD
 obtain⟨I,hI⟩:=exE f7
 try rw[← hH]
 try rw[← hI]
 try rw[← hA]
 unfold afB at hg
 split at hg <;> cases hg
 rename_i a b l
 have o1:=(aG ho).1
 have hlen:aY l < 1000000:=acT o1
 rw[← hA] at o1
 clear ho
 have lh:=afM A hA H hH a b
 have f:=fun u v hu hv=>af6 (a:=a) (b:=b) (u:=u) (v:=v) hlen A hA I hI hu hv
 cbv
 repeat' with_reducible first | (intro hb;cbv) | refine UM ?_ ?_
 all_goals first | exact o1 | skip
 all_goals first | (have hx:=f _ _ (lh.1 (by assumption)).1 (lh.1 (by assumption)).2) | (have hx:=f _ _ (lh.2 (by assumption)).1 (lh.2 (by assumption)).2)
 all_goals first | exact hx.o0 | exact(hx.t1 hb).1 | exact(hx.t1 hb).2.1 | exact(hx.t0 hb).1 | exact(hx.t0 hb).2.1 | skip
 all_goals first | (have t:=hx.t1 hb) | (have t:=hx.t0 hb)
 all_goals (subst hI;exact hk _ _ (iV.one _ _ rfl (fun ρ=>afU) (fO.hw rfl rfl hx.p0 t.2.2.1 t.2.2.2.1 t.2.2.2.2)))
def afF (A:Alg) (I:SP):List CV→List Blk→Option LW
 | [.s (.hs 0)],[.vec true .pt l]=>some ⟨[A.cmp .lss (A.len l) 1000000], .t [],[],[.vec true .pt (I.rv l)]⟩
 | _,_=>none
structure RvS (A:Alg) (l:List Pt) (i j:Int) (M:List Pt):Prop where
 o1:A.cmp .leq 0 i=true
 o2:A.cmp .lss i (A.len M)=true
 o3:A.cmp .leq 0 j=true
 o4:A.cmp .lss j (A.len M)=true
 o5:A.cmp .lss i (A.len (A.set M i (dP A M j)))=true
 o6:A.cmp .lss j (A.len (A.set M i (dP A M j)))=true
 nx:RvG l (i+1) (j - 1) (A.set (A.set M i (dP A M j)) j (dP A M i))
 ad:A.bin .add .i64 i 1=i+1
 sb:A.bin .sub .i64 j 1=j - 1
 ms:((l.length:Int) - (i+1)).toNat < ((l.length:Int) - i).toNat
theorem afV {l:List Pt} {i j:Int} {M:List Pt} (hl:aY l < 1000000) (h:RvG l i j M) (A:Alg) (hA:A=aA) (hb:A.cmp .lss i j=true):RvS A l i j M:=by
 subst hA
 have hb:i < j:=of_decide_eq_true hb
 have hl:(l.length:Int) < 1000000:=hl
 have hj:=h.2.2.1
 have hM:=h.2.2.2.1
 obtain⟨a,b,c,d,nx⟩:=adQ h ⟨⟨⟨false,aA.zD⟩,⟨false,aA.zD⟩⟩,⟨⟨false,aA.zD⟩,⟨false,aA.zD⟩⟩⟩ hb
 have len: ∀ k x,aA.len (aA.set M k x)=aA.len M:=fun k x=>by show((M.set k.toNat x).length:Int)=(M.length:Int);rw[List.length_set]
 have g: ∀ k,dP aA M k=M.getD k.toNat ⟨⟨⟨false,aA.zD⟩,⟨false,aA.zD⟩⟩,⟨⟨false,aA.zD⟩,⟨false,aA.zD⟩⟩⟩:=fun k=>by show(M[k.toNat]?).getD _=_;rw[List.getD_eq_getElem?_getD]
 refine⟨bJ _ rfl _ _ a,bH _ rfl _ _ b,bJ _ rfl _ _ c,bH _ rfl _ _ d,?_,?_,?_,?_,?_,by omega⟩
 ·rw[len];exact bH _ rfl _ _ b
 ·rw[len];exact bH _ rfl _ _ d
 ·rw[g,g];exact nx
 ·show IntKind.i64.wrap _=_;rw[IntKind.wrap_i64];omega
 ·show IntKind.i64.wrap _=_;rw[IntKind.wrap_i64];omega
theorem aeS:aJ Tryz.prog 165 (aR [.a (.sw .pt)] aA (afF aA f7)):=by
 refine aW (un:=⟨false,some [0,2,3,9]⟩) tok ad3 aL (fn:=Tryz.f165) ?_
 intro w Wr args bs r hg ho hWr A L k hA hL hk
 obtain⟨H,hH⟩:=exE bD
 obtain⟨I,hI⟩:=exE f7
 try rw[← hH]
 try rw[← hI]
 try rw[← hA]
 unfold afF at hg
 split at hg <;> cases hg
 rename_i l
 have hlen:aY l < 1000000:=acT (aG ho).1
 clear ho
 have hl2:(l.length:Int) < 1000000:=hlen
 have i0:RvG l 0 (A.bin .sub .i64 (A.len l) 1) l:=by
  have:A.bin .sub .i64 (A.len l) 1=(l.length:Int) - 1:=by subst hA;show IntKind.i64.wrap ((l.length:Int) - 1)=_;rw[IntKind.wrap_i64];omega
  rw[this];exact RvG.init l
 cbv
 refine hL _ _ _ (aQ (un:=⟨false,some [0,2,3,9]⟩) tok ad3 aL (fun p:Int×Int×List Pt=>⟨[(3,⟨[], .c (.s (.int .i64 p.2.1))⟩),(2,⟨[], .c (.s (.int .i64 p.1))⟩),(0,⟨[], .c (.s (.hs 0))⟩)],[(0, .vec true .pt p.2.2)],1⟩)
  (fun p=>RvG l p.1 p.2.1 p.2.2) (fun p=>((l.length:Int) - p.1).toNat) (0,_,l) i0 ?_ (fun _ i hi=>by have:=hWr i hi;simp at this ⊢;omega) ?_)
 ·exact⟨⟨⟨rfl,rfl,fun _=>rfl⟩,⟨rfl,rfl,fun _=>rfl⟩,⟨rfl,rfl,fun _=>rfl⟩,trivial⟩,⟨aF rfl,trivial⟩,rfl,rfl⟩
 clear i0
 rintro⟨i,j,M⟩ hJ A2 L2 k2 hA2 hL2 hnext hexit hret
 have st:=fun hb=>afV hlen hJ A2 hA2 hb
 have en:=fun hb:A2.cmp .lss i j=false=>aeB hJ (by subst hA2;exact of_decide_eq_false hb)
 clear hJ
 rw[← hA2, ← hH, ← hI]
 cbv
 repeat' with_reducible first | (intro hb;cbv) | refine UM ?_ ?_
 all_goals first | exact(st hb).o1 | exact(st hb).o2 | exact(st hb).o3 | exact(st hb).o4 | exact(st hb).o5 | exact(st hb).o6 | skip
 ·have st:=st hb
  exact hnext _ (i+1,j - 1,_) st.nx st.ms ⟨⟨⟨rfl,rfl,leI st.sb⟩,⟨rfl,rfl,leI st.ad⟩,⟨rfl,rfl,fun _=>rfl⟩,trivial⟩,⟨leV rfl,trivial⟩,rfl,rfl⟩
 ·have hz:=en hb
  apply hexit
  clear hexit hnext hret st en
  cbv
  exact hk _ _ (bW.wrote (i:=0) rfl rfl rfl (fun ρ=>rfl) rfl (.vec hz))
end Go.Eng
