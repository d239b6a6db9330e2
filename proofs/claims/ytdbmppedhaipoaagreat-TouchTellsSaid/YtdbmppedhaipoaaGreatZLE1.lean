
import Derived.Test.YtdbmppedhaipoaaGreatZLE0
import Derived.Test.YtdbmppedhaipoaaGreatZCDT
import Derived.Test.YtdbmppedhaipoaaGreatSpecU4
set_option linter.all false
set_option exponentiation.threshold 3000
set_option maxRecDepth 100000
set_option maxHeartbeats 2000000
namespace Go.Eng
open Go.Proofs
def gTT (A:Alg) (U:SU):List CV→List Blk→Option LW
 | [.g [.s (.int .i64 x), .s (.int .i64 y), .s (.int .i64 s)], .g [.P a], .g [.P b], .g [.s (.hs 0), .s (.hs 1), .s (.hs 2)]],[.vec false .i3 V, .vec false .i3 S, .vec false .pt l]=>some ⟨[U.inb V,U.inb S], .c (.s (.bool true)),[],[]⟩
 | _,_=>none
theorem VT (x y s:Int) (V S:List (Int×Int×Int)): ∀ k:Nat,(V4 x y s V S k=[]↔ ∀ j:Int,0≤j→j < k→VM x y s V S j=false)
 | 0=>⟨fun _ j h0 h1=>by omega,fun _=>rfl⟩
 | k+1=>by
  have ih:=VT x y s V S k
  unfold V4
  by_cases h:VM x y s V S k=true
  ·rw[if_pos h]
   constructor
   ·intro g;simp at g
   ·intro g;have:=g k (by omega) (by omega);rw[this] at h;cases h
  ·rw[if_neg h,ih]
   have h:VM x y s V S k=false:=by simpa using h
   constructor
   ·intro g j h0 h1
    by_cases e:j=k
    ·subst e;exact h
    ·exact g j h0 (by omega)
   ·intro g j h0 h1;exact g j h0 (by omega)
theorem Xz (x y s:Int) (V S:List (Int×Int×Int)):cY (aY S) (VM x y s V S)=decide (0 < (V4 x y s V S S.length).length):=by
 have h:=VT x y s V S S.length
 cases ha:cY (aY S) (VM x y s V S)
 ·have e:=h.2 (fun j h0 h1=>dY.1 ha j h0 h1)
  rw[e];rfl
 ·refine(decide_eq_true ?_).symm
  obtain⟨j,h0,h1,h2⟩:=mH.1 ha
  refine Nat.pos_of_ne_zero fun e=>?_
  have:=h.1 (List.eq_nil_of_length_eq_zero e) j h0 h1
  rw[this] at h2;cases h2
structure TtF (A:Alg) (U:SU) (O:SO) (B:SB) (C:SC) (x y s:Int) (a b:Pt) (V S:List (Int×Int×Int)) (l:List Pt):Prop where
 c1:A.not (A.beq (B.seg x y s a b) (B.tch x y s a b))=true→False
 k0:A.ite (A.cmp .eql (O.check V S l) 0) (C.is x y s) false=true→A.cmp .eql (U.check V S l) 0=true
 k1:A.ite (A.cmp .eql (O.check V S l) 0) (C.is x y s) false=true→C.is x y s=true
 nl:A.ite (A.cmp .eql (O.check V S l) 0) (C.is x y s) false=false→B.all x y s V S l=[]
 d1:A.ite (A.cmp .neq (A.len (B.all x y s V S l)) (A.len (B.all x y s V S l))) true (A.not (A.beq (B.any x y s V S l) (A.cmp .gtr (A.len (B.all x y s V S l)) 0)))=true→False
 d2:B.all x y s V S l=[]→A.ite (A.cmp .neq (A.len (B.all x y s V S l)) 0) true (A.not (A.beq (B.any x y s V S l) false))=true→False
theorem ZJ (A:Alg) (hA:A=aA) (U:SU) (hU:U=bN) (O:SO) (hO:O=pE) (B:SB) (hB:B=UP) (C:SC) (hC:C=UT) (x y s:Int) (a b:Pt) (V S:List (Int×Int×Int)) (l:List Pt):TtF A U O B C x y s a b V S l:=by
 subst hA hU hO hB hC
 have e:pE.check V S l=Cm V S l:=(Fr V S l).symm
 have ia: ∀ u v:Bool,aA.ite u v false=(u&&v):=fun u v=>by cases u <;> rfl
 have it: ∀ u v:Bool,aA.ite u true v=(u||v):=fun u v=>by cases u <;> rfl
 have ek:aA.cmp .eql (pE.check V S l) 0=decide (Cm V S l=0):=by rw[e];show(Cm V S l == 0)=_;by_cases h:Cm V S l=0 <;> simp[h]
 have ay:UP.any x y s V S l=decide (0 < (UP.all x y s V S l).length):=by
  show(decide (Cm V S l=0)&&cY (aY S) (VM x y s V S))=decide (0 < (if Cm V S l=0 then V4 x y s V S S.length else[]).length)
  by_cases h:Cm V S l=0
  ·rw[if_pos h,Xz];simp[h]
  ·rw[if_neg h];simp[h]
 refine⟨fun h=>?_,fun h=>?_,fun h=>?_,fun h=>?_,fun h=>?_,fun h0 h=>?_⟩
 ·have h:(!(U3 x y s a b == Yv x y s a b))=true:=h
  rw[XR] at h;simp at h
 ·rw[ek,ia,Bool.and_eq_true,decide_eq_true_eq] at h
  show(Cm V S l == 0)=true
  rw[h.1];rfl
 ·rw[ek,ia,Bool.and_eq_true] at h;exact h.2
 ·rw[ek,ia] at h
  show(if Cm V S l=0 then V4 x y s V S S.length else[])=[]
  by_cases hk:Cm V S l=0
  ·rw[if_pos hk]
   rw[hk] at h
   have h:Vq x y s=false:=by simpa using (show(decide ((0:Int)=0)&&Vq x y s)=false from h)
   rw[VT]
   intro j _ _
   unfold VM U3
   rw[h];rfl
  ·rw[if_neg hk]
 ·rw[it,ay] at h
  have h:((((UP.all x y s V S l).length:Int) != ((UP.all x y s V S l).length:Int))|| !(decide (0 < (UP.all x y s V S l).length) == decide (((UP.all x y s V S l).length:Int) > 0)))=true:=h
  simp at h
 ·rw[it,ay,h0] at h
  exact absurd h (by decide)
structure SmI (L:List Int) (k:Int):Prop where
 k0:0≤k
 k1:k≤(L.length:Int)
structure SmS (A:Alg) (L:List Int) (k:Int):Prop where
 o1:A.cmp .leq 0 k=true
 ne:A.cmp .neq (A.get L k 0) (A.get L k 0)=true→False
 nx:SmI L (k+1)
 ad:A.bin .add .i64 k 1=k+1
 ms:((L.length:Int) - (k+1)).toNat < ((L.length:Int) - k).toNat
theorem ZE {L:List Int} {k:Int} (hl:(L.length:Int) < 1000000) (h:SmI L k) (A:Alg) (hA:A=aA) (hb:A.cmp .lss k (A.len L)=true):SmS A L k:=by
 subst hA
 obtain⟨k0,k1⟩:=h
 have hb:k < (L.length:Int):=of_decide_eq_true hb
 exact⟨bJ _ rfl _ _ k0,fun h=>by have h:(aA.get L k 0 != aA.get L k 0)=true:=h;simp at h,⟨by omega,by omega⟩,by show IntKind.i64.wrap _=_;rw[IntKind.wrap_i64];omega,by omega⟩
theorem Xy (x y s:Int) (V S:List (Int×Int×Int)) (l:List Pt):((UP.all x y s V S l).length:Int) < 1000000:=by
 show(((if Cm V S l=0 then V4 x y s V S S.length else[]).length:Nat):Int) < 1000000
 by_cases h:Cm V S l=0
 ·rw[if_pos h]
  have h1:=(Vo h).2.1
  unfold aY at h1
  have:=Wc x y s V S S.length
  omega
 ·rw[if_neg h];decide
def uG1 (A:Alg) (U:SU) (O:SO) (H:SH) (B:SB) (C:SC):List (Nat×bU):=(10,aR [] A (Vs)) :: (11,aR [.g [.s .i3, .s .i3, .s .pt]] A (PR A)) :: (12,aC [.v, .v, .v] A (VW B)) :: (13,aC [.v, .v, .v] A (YW B)) :: (14,aR [.g [.s .i3, .s .i3, .s .pt]] A (xV U O)) :: (15,aC [.v] A (Wq C)) :: (16,aR [.g [.s .i3, .s .i3, .s .pt], .a .v] A (XF A U C B)) :: (17,aR [.g [.s .i3, .s .i3, .s .pt], .a .v] A (W2 U B)) :: (18,aR [.g [.s .i3, .s .i3, .s .pt], .a .v] A (W3 U B)) :: ([])
theorem XU:COK Tryz.prog (aN (uG1 aA bN pE bD UP UT)):=aB U2 (aB W8 (aB Vt (aB XO (aB DU (aB Vk (aB XL (aB WF (aB WG (bC)))))))))
theorem VQ:aJ Tryz.prog 3 (aR [.a .v, .a .v, .a .v, .g [.s .i3, .s .i3, .s .pt]] aA (gTT aA bN)):=by
 refine aW (un:=⟨false,some [0,1,2,3,4,5,6,7,8,9,10,11,13,16,25,32,52,56,67]⟩) tok XU aL (fn:=Tryz.f3) ?_
 intro w Wr args bs r hg ho hWr A L k hA hL hk
 obtain⟨B,hB⟩:=exE UP
 obtain⟨C,hC⟩:=exE UT
 obtain⟨H,hH⟩:=exE bD
 obtain⟨O,hO⟩:=exE pE
 obtain⟨U,hU⟩:=exE bN
 try rw[← hB]
 try rw[← hC]
 try rw[← hH]
 try rw[← hO]
 try rw[← hU]
 try rw[← hA]
 unfold gTT at hg
 split at hg <;> cases hg
 rename_i x y s a b V S l
 have bv:=(aG ho).1
 rw[← hU] at bv
 clear ho
 have f:=ZJ A hA U hU O hO B hB C hC x y s a b V S l
 have im: ∀ b c,c=true→A.imp b c=true:=fun b c h=>by rw[h,hA];cases b <;> rfl
 have hL0:((B.all x y s V S l).length:Int) < 1000000:=by rw[hB];exact Xy x y s V S l
 cbv
 repeat' with_reducible first | (intro hb;cbv) | refine UM ?_ ?_
 all_goals first | exact bv | exact im _ _ bv | exact f.k0 (by assumption) | exact f.k1 (by assumption) | skip
 ·exfalso;subst hA;cases hb
 ·exact hk _ _ (bW.pure rfl rfl fun ρ=>dT rfl)
 ·exact(f.c1 hb).elim
 ·exact(f.d1 hb).elim
 ·clear f im
  have i0:SmI (B.all x y s V S l) 0:=⟨Int.le_refl _,Int.natCast_nonneg _⟩
  refine hL _ _ _ (aQ (un:=⟨false,some [0,1,2,3,4,5,6,7,8,9,10,11,13,16,25,32,52,56,67]⟩) tok XU aL (fun k:Int=>⟨[(11,⟨[], .c (.s (.int .i64 k))⟩),(10,⟨[], .c (.s (.hs 8))⟩),(9,⟨[], .c (.s (.hs 7))⟩)],[(7, .vec true (.int .i64) (B.all x y s V S l)),(8, .vec true (.int .i64) (B.all x y s V S l))],9⟩)
   (fun k=>SmI (B.all x y s V S l) k) (fun k=>(((B.all x y s V S l).length:Int) - k).toNat) 0 i0 ?_ (fun _ i hi=>by have:=hWr i hi;simp at this;show i < 9;omega) ?_)
  ·exact⟨⟨⟨rfl,rfl,fun _=>rfl⟩,⟨rfl,rfl,fun _=>rfl⟩,⟨rfl,rfl,fun _=>rfl⟩,trivial⟩,⟨aF rfl,aF rfl,trivial⟩,rfl,rfl⟩
  clear i0
  rintro q hI A2 L2 k2 hA2 hL2 hnext hexit hret
  have st:=fun hb=>ZE hL0 hI A2 hA2 hb
  clear hI
  rw[← hA2, ← hB]
  cbv
  repeat' with_reducible first | (intro hb;cbv) | refine UM ?_ ?_
  all_goals first | assumption | exact(st (by assumption)).o1 | skip
  ·exact((st (by assumption)).ne hb).elim
  ·have st:=st (by assumption)
   refine hnext _ (q+1) st.nx st.ms ?_
   have ead:=st.ad
   subst hA2 hB
   exact⟨⟨⟨rfl,rfl,leI ead⟩,⟨rfl,rfl,fun _=>rfl⟩,⟨rfl,rfl,fun _=>rfl⟩,trivial⟩,⟨aF rfl,aF rfl,trivial⟩,rfl,rfl⟩
  ·apply hexit
   clear hexit hnext hret st
   cbv
   exact hk _ _ (bW.pure rfl rfl fun ρ=>dT rfl)
 ·exact(f.d2 (f.nl (by assumption)) hb).elim
 ·have e0:B.all x y s V S l=[]:=f.nl (by assumption)
  clear f im
  have i0:SmI (B.all x y s V S l) 0:=⟨Int.le_refl _,Int.natCast_nonneg _⟩
  refine hL _ _ _ (aQ (un:=⟨false,some [0,1,2,3,4,5,6,7,8,9,10,11,13,16,25,32,52,56,67]⟩) tok XU aL (fun k:Int=>⟨[(11,⟨[], .c (.s (.int .i64 k))⟩),(10,⟨[], .c (.s (.hs 7))⟩),(9,⟨[], .c (.s .nils)⟩)],[(7, .vec true (.int .i64) (B.all x y s V S l))],8⟩)
   (fun k=>SmI (B.all x y s V S l) k) (fun k=>(((B.all x y s V S l).length:Int) - k).toNat) 0 i0 ?_ (fun _ i hi=>by have:=hWr i hi;simp at this;show i < 8;omega) ?_)
  ·exact⟨⟨⟨rfl,rfl,fun _=>rfl⟩,⟨rfl,rfl,fun _=>rfl⟩,⟨rfl,rfl,fun _=>rfl⟩,trivial⟩,⟨aF rfl,trivial⟩,rfl,rfl⟩
  clear i0
  rintro q hI A2 L2 k2 hA2 hL2 hnext hexit hret
  have no:A2.cmp .lss q (A2.len (B.all x y s V S l))=true→False:=fun hb=>by
   rw[e0] at hb hI
   have h1:=hI.k0
   subst hA2
   have hb:q < 0:=of_decide_eq_true hb
   omega
  rw[← hA2, ← hB]
  cbv
  repeat' with_reducible first | (intro hb;cbv) | refine UM ?_ ?_
  ·exact no hb
  ·apply hexit
   clear hexit hnext hret no
   cbv
   exact hk _ _ (bW.pure rfl rfl fun ρ=>dT rfl)
end Go.Eng
