
import Derived.Test.YtklnlmebjeoidaaGreatYCH4
set_option linter.all false
set_option exponentiation.threshold 3000
set_option maxRecDepth 100000
set_option maxHeartbeats 2000000
namespace Go.Eng
open Go.Proofs
def afH (A:Alg) (I:SP):List CV→List Blk→Option LW
 | [.s (.hs 0)],[.vec false .pt l]=>some ⟨[A.cmp .lss (A.len l) 1000], .c (.s (.hs 1)),[.vec true .pt (I.srt l)],[]⟩
 | _,_=>none
structure SrJ (l:List Pt) (k:Int) (M:List Pt):Prop where
 k0:0≤k
 k1:k≤aY l
 e:M=ac3 l k.toNat
structure SrS (A:Alg) (H:SH) (I:SP) (l:List Pt) (k:Int) (M:List Pt):Prop where
 o1:A.cmp .leq 0 k=true
 n0:A.not (H.all [dP A l k])=true→SrJ l (k+1) M
 oM:A.cmp .lss (A.len M) 1000000=true
 oR:I.rise M=true
 oP:A.not (H.all [dP A l k])=false→H.all [dP A l k]=true
 n1:A.not (H.all [dP A l k])=false→A.not (I.there M (dP A l k))=false→SrJ l (k+1) M
 p0:A.cmp .leq 0 (I.pos M (dP A l k))=true
 p1:A.cmp .leq (I.pos M (dP A l k)) (A.len M)=true
 c1:A.cmp .leq (A.len (A.sub M 0 (I.pos M (dP A l k)))) 1000000=true
 c2:A.cmp .leq (A.iadd (A.len (A.sub M 0 (I.pos M (dP A l k)))) (A.len [dP A l k])) 1000000=true
 c3:A.cmp .leq (A.iadd (A.len (A.app (A.sub M 0 (I.pos M (dP A l k))) [dP A l k])) (A.len (A.sub M (I.pos M (dP A l k)) (A.len M)))) 1000000=true
 n2:A.not (H.all [dP A l k])=false→A.not (I.there M (dP A l k))=true→SrJ l (k+1) (A.app (A.app (A.sub M 0 (I.pos M (dP A l k))) [dP A l k]) (A.sub M (I.pos M (dP A l k)) (A.len M)))
 z0:A.cmp .leq 0 0=true
 lM:A.cmp .leq (A.len M) (A.len M)=true
 ad:A.bin .add .i64 k 1=k+1
 ms:(aY l - (k+1)).toNat < (aY l - k).toNat
theorem agL {l:List Pt} {k:Int} {M:List Pt} (hl:aY l < 1000) (h:SrJ l k M) (A:Alg) (hA:A=aA) (H:SH) (hH:H=bD) (I:SP) (hI:I=dL) (hb:A.cmp .lss k (A.len l)=true):SrS A H I l k M:=by
 subst hA hH hI
 obtain⟨k0,k1,e⟩:=h
 have hb:k < aY l:=of_decide_eq_true hb
 have hM:(M.length:Int)≤1000:=by rw[e];have:=acO l k.toNat;omega
 have ek:(k+1).toNat=k.toNat+1:=by omega
 have ek2:((k.toNat:Nat):Int)=k:=Int.toNat_of_nonneg k0
 have pb:=UV M (pC l k)
 have hle:aY M=(M.length:Int):=rfl
 have ea:dJ (pC l k)=bD.all [dP aA l k]:=by show _=(dJ (pC l k)&&true);rw[Bool.and_true]
 have hn: ∀ b:Bool,aA.not b= !b:=fun b=>rfl
 have s1:aA.sub M 0 (dL.pos M (dP aA l k))=M.take (hO M (pC l k)).toNat:=by
  show(M.take (hO M (pC l k)).toNat).drop (0:Int).toNat=_
  rw[Int.toNat_zero,List.drop_zero]
 have s2:aA.sub M (dL.pos M (dP aA l k)) (aA.len M)=M.drop (hO M (pC l k)).toNat:=by
  show(M.take (M.length:Int).toNat).drop (hO M (pC l k)).toNat=_
  rw[Int.toNat_natCast,List.take_length]
 have l1:(M.take (hO M (pC l k)).toNat).length≤M.length:=by rw[List.length_take];omega
 have l2:(M.drop (hO M (pC l k)).toNat).length≤M.length:=by rw[List.length_drop];omega
 have iad: ∀ x y:Int,aA.iadd x y=x+y:=fun _ _=>rfl
 have ln: ∀ X:List Pt,aA.len X=(X.length:Int):=fun _=>rfl
 have ap: ∀ X Y:List Pt,aA.app X Y=X++Y:=fun _ _=>rfl
 refine⟨bJ _ rfl _ _ k0,fun h=>⟨by omega,by omega,?_⟩,bH _ rfl _ _ (by show(M.length:Int) < 1000000;omega),?_,fun h=>?_,fun h h2=>⟨by omega,by omega,?_⟩,bJ _ rfl _ _ pb.1,bJ _ rfl _ _ pb.2,?_,?_,?_,fun h h2=>⟨by omega,by omega,?_⟩,bJ _ rfl _ _ (Int.le_refl _),bJ _ rfl _ _ (Int.le_refl _),by show IntKind.i64.wrap _=_;rw[IntKind.wrap_i64];omega,by omega⟩
 ·rw[hn, ← ea,Bool.not_eq_true'] at h
  rw[ek,ac3,ek2,if_neg (by rw[h];decide)];exact e
 ·show adP M=true
  rw[e];exact aaQ.2 (Vi l _)
 ·rw[hn,Bool.not_eq_false'] at h;exact h
 ·rw[hn, ← ea,Bool.not_eq_false'] at h
  rw[hn,Bool.not_eq_false'] at h2
  have h2:i8 M (pC l k)=true:=h2
  rw[ek,ac3,ek2,if_pos h, ← e,ad5,if_pos h2]
 ·rw[s1,ln]
  refine bJ _ rfl _ _ ?_
  omega
 ·rw[s1,iad,ln,ln]
  refine bJ _ rfl _ _ ?_
  rw[List.length_singleton];omega
 ·rw[s1,s2,iad,ln,ln,ap]
  refine bJ _ rfl _ _ ?_
  rw[List.length_append,List.length_singleton];omega
 ·rw[hn, ← ea,Bool.not_eq_false'] at h
  rw[hn,Bool.not_eq_true'] at h2
  have h2:i8 M (pC l k)=false:=h2
  rw[ek,ac3,ek2,if_pos h, ← e,ad5,if_neg (by rw[h2];decide),s1,s2]
  rfl
def hC2 (A:Alg) (H:SH) (I:SP):List (Nat×bU):=(13,aC [.v] A (C1 H)) :: (24,aR [.a (.s .pt), .a .v] A (afD A I H)) :: ([])
theorem aeL:COK Tryz.prog (aN (hC2 aA bD dL)):=aB z9 (aB ad8 (bC))
theorem adM:aJ Tryz.prog 9 (aR [.a (.s .pt)] aA (afH aA dL)):=by
 refine aW (un:=⟨false,some [0,2,3,4,5,6,10,18,29]⟩) tok aeL aL (fn:=Tryz.f9) ?_
 intro w Wr args bs r hg ho hWr A L k hA hL hk
 obtain⟨H,hH⟩:=exE bD
 obtain⟨I,hI⟩:=exE dL
 try rw[← hH]
 try rw[← hI]
 try rw[← hA]
 unfold afH at hg
 split at hg <;> cases hg
 rename_i l
 have hl:aY l < 1000:=by have h:=(aG ho).1;have h:(l.length:Int) < 1000:=of_decide_eq_true h;exact h
 clear ho
 have i0:SrJ l 0 []:=⟨Int.le_refl _,Int.natCast_nonneg _,rfl⟩
 cbv
 refine hL _ _ _ (gM (un:=⟨false,some [0,2,3,4,5,6,10,18,29]⟩) tok aeL aL 1 (fun i hi=>by have:=hWr i hi;simp at this;show i < 1;omega) (fun p:Int×List Pt=>⟨[(4,⟨[], .c (.s (.int .i64 p.1))⟩),(3,⟨[], .c (.s (.hs 1))⟩),(2,⟨[], .c (.s .nils)⟩),(0,⟨[], .c (.s (.hs 0))⟩)],[(0, .vec false .pt l),(1, .vec true .pt p.2)],2⟩)
  (fun p=>SrJ l p.1 p.2) (fun p=>(aY l - p.1).toNat) (0,[]) i0 [(1, .nils)] ?_ (fun _=>Nat.le_of_ble_eq_true rfl) ?_)
 ·exact⟨⟨⟨rfl,rfl,fun _=>rfl⟩,⟨rfl,rfl,fun _=>rfl⟩,⟨rfl,rfl,fun _=>rfl⟩,⟨rfl,rfl,fun _=>rfl⟩,trivial⟩,⟨⟨rfl,rfl,rfl,rfl,fun h=>h⟩,rfl,trivial⟩,rfl,rfl,rfl,rfl⟩
 clear i0
 rintro⟨k,M⟩ hJ A2 L2 k2 hA2 hL2 hnext hexit hret
 have st:=fun hb=>agL hl hJ A2 hA2 H hH I hI hb
 have en:A2.cmp .lss k (A2.len l)=false→M=I.srt l:=fun hb=>by
  subst hA2 hI
  have hb: ¬ k < aY l:=of_decide_eq_false hb
  have h1:k≤aY l:=hJ.k1
  have:k=aY l:=by omega
  have e:M=ac3 l k.toNat:=hJ.e
  rw[e,this];rfl
 clear hJ
 rw[← hA2, ← hH, ← hI]
 with_reducible refine fA fun kk hn hx=>?_
 cbv
 repeat' with_reducible first | (intro hb;cbv) | refine UM ?_ ?_
 rotate_left
 ·refine hx (.exit 0) _ (fun h=>by cases h) ?_
  clear hn hx kk
  cbv
  have e:=en hb
  have eA:A2=A:=hA2.trans hA.symm
  apply hexit
  clear hexit hnext hret st en
  subst eA hI
  cbv
  exact hk _ _ (bW.one (t:=1) rfl rfl (Nat.le_of_ble_eq_true rfl) (fun ρ=>rfl) rfl (.vec e))
 with_reducible refine hn _ ?_
 clear hn hx kk
 have st:=st hb
 with_reducible refine fA fun k4 hn4 hx4=>?_
 with_reducible refine ZM fun k5 n5 e5 x5 r5=>?_
 with_reducible refine fA fun kk hn hx=>?_
 cbv
 repeat' with_reducible first | (intro hb;cbv) | refine UM ?_ ?_
 all_goals first | exact st.o1 | assumption | skip
 ·refine hx (.exit 1) _ (fun h=>by cases h) ?_
  refine e5 _ ?_
  refine hn4 _ ?_
  clear hn hx kk n5 e5 x5 r5 hn4 hx4
  cbv
  refine hnext _ (k+1,M) [] (st.n0 (by assumption)) st.ms ?_
  have ead:=st.ad
  subst hA2 hA
  exact⟨⟨⟨rfl,rfl,leI ead⟩,⟨rfl,rfl,fun _=>rfl⟩,⟨rfl,rfl,fun _=>rfl⟩,⟨rfl,rfl,fun _=>rfl⟩,trivial⟩,⟨⟨rfl,rfl,rfl,rfl,fun h=>h⟩,⟨rfl,rfl,rfl,rfl,fun h=>h⟩,trivial⟩,rfl,rfl,rfl,rfl⟩
 ·with_reducible refine hn _ ?_
  clear hn hx kk
  have hv:=hb
  with_reducible refine fA fun kk hn hx=>?_
  cbv
  repeat' with_reducible first | (intro hb;cbv) | refine UM ?_ ?_
  all_goals first | exact st.o1 | assumption | exact st.oM | exact st.oR | exact st.oP hv | skip
  with_reducible refine hn _ ?_
  clear hn hx kk
  cbv
  repeat' with_reducible first | (intro hb;cbv) | refine UM ?_ ?_
  all_goals first | exact st.o1 | assumption | exact st.p0 | exact st.p1 | exact st.c1 | exact st.c2 | exact st.c3 | exact st.z0 | exact st.lM | skip
  ·refine n5 _ ?_
   refine hn4 _ ?_
   clear n5 e5 x5 r5 hn4 hx4
   cbv
   have nx:=st.n2 hv hb
   have ead:=st.ad
   have ems:=st.ms
   subst hA2 hA
   first | (refine hnext _ (k+1,_) [(1, .hs 5)] nx ems ?_;exact⟨⟨⟨rfl,rfl,leI ead⟩,⟨rfl,rfl,fun _=>rfl⟩,⟨rfl,rfl,fun _=>rfl⟩,⟨rfl,rfl,fun _=>rfl⟩,trivial⟩,⟨⟨rfl,rfl,rfl,rfl,fun h=>h⟩,⟨rfl,rfl,rfl,rfl,fun h=>h⟩,trivial⟩,rfl,rfl,rfl,rfl⟩) | (refine hnext _ (k+1,_) [(1, .hs 4)] nx ems ?_;exact⟨⟨⟨rfl,rfl,leI ead⟩,⟨rfl,rfl,fun _=>rfl⟩,⟨rfl,rfl,fun _=>rfl⟩,⟨rfl,rfl,fun _=>rfl⟩,trivial⟩,⟨⟨rfl,rfl,rfl,rfl,fun h=>h⟩,⟨rfl,rfl,rfl,rfl,fun h=>h⟩,trivial⟩,rfl,rfl,rfl,rfl⟩) | (refine hnext _ (k+1,_) [(1, .hs 6)] nx ems ?_;exact⟨⟨⟨rfl,rfl,leI ead⟩,⟨rfl,rfl,fun _=>rfl⟩,⟨rfl,rfl,fun _=>rfl⟩,⟨rfl,rfl,fun _=>rfl⟩,trivial⟩,⟨⟨rfl,rfl,rfl,rfl,fun h=>h⟩,⟨rfl,rfl,rfl,rfl,fun h=>h⟩,trivial⟩,rfl,rfl,rfl,rfl⟩) | (refine hnext _ (k+1,_) [(1, .hs 7)] nx ems ?_;exact⟨⟨⟨rfl,rfl,leI ead⟩,⟨rfl,rfl,fun _=>rfl⟩,⟨rfl,rfl,fun _=>rfl⟩,⟨rfl,rfl,fun _=>rfl⟩,trivial⟩,⟨⟨rfl,rfl,rfl,rfl,fun h=>h⟩,⟨rfl,rfl,rfl,rfl,fun h=>h⟩,trivial⟩,rfl,rfl,rfl,rfl⟩)
  ·refine n5 _ ?_
   refine hn4 _ ?_
   clear n5 e5 x5 r5 hn4 hx4
   cbv
   refine hnext _ (k+1,M) [] (st.n1 hv hb) st.ms ?_
   have ead:=st.ad
   subst hA2 hA
   exact⟨⟨⟨rfl,rfl,leI ead⟩,⟨rfl,rfl,fun _=>rfl⟩,⟨rfl,rfl,fun _=>rfl⟩,⟨rfl,rfl,fun _=>rfl⟩,trivial⟩,⟨⟨rfl,rfl,rfl,rfl,fun h=>h⟩,⟨rfl,rfl,rfl,rfl,fun h=>h⟩,trivial⟩,rfl,rfl,rfl,rfl⟩
end Go.Eng
