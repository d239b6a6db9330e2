
import Derived.Test.YtklnlmebjeoidaaGreatYLH1
import Derived.Test.YtklnlmebjeoidaaGreatSpecP4
set_option linter.all false
set_option exponentiation.threshold 3000
set_option maxRecDepth 100000
set_option maxHeartbeats 2000000
namespace Go.Eng
open Go.Proofs
theorem agN {a x:Pt} (ha:dJ a=true) (hx:dJ x=true):Cal (bD.dot a x x) (gY a x x) 485:=by
 have Ha:=e9 ha
 have Hx:=e9 hx
 have x1:=(Cal.of Hx.x).sub (Cal.of Ha.x) (by decide)
 have y1:=(Cal.of Hx.y).sub (Cal.of Ha.y) (by decide)
 have m1:=x1.2.mul x1.2 (by decide)
 have m2:=y1.2.mul y1.2 (by decide)
 have md:=(m1.2.add m2.2 (by decide)).2
 rw[M8 (AL ha hx hx)]
 exact(show ofQ (gY a x x)=_ from md.eq.symm) ▸ md
def agW:List CV→List Blk→Option LW
 | [.g [.P a], .g [.P b], .s (.hs 0)],[.vec false .pt l]=>some ⟨[], .c (.s (.bool true)),[],[]⟩
 | _,_=>none
structure RsJ (a b:Pt) (X:List Pt) (k:Int) (r:Rt):Prop where
 k0:0≤k
 k1:k≤aY X
 r: ∃ q,Cal r q 485∧ ∀ j:Nat,k≤j→j < X.length→q < gY a (pC X j) (pC X j)
structure RsF (X Y:List Pt) (a b:Pt):Prop where
 n0:aY X < 1000
 len:aY X=aY Y
 bk: ∀ j:Nat,j < X.length→pC Y ((X.length:Int) - 1 - j)=pC X j
 far: ∀ i j:Nat,i < j→j < X.length→gY a (pC X i) (pC X i) < gY a (pC X j) (pC X j)
 on: ∀ j:Nat,j < X.length→onE a b (pC X j)=true
theorem ag2 {a b:Pt} {n:List Pt} (hl:n.length≤20) (hn:Z4 n) (ha:dJ a=true) (hb:dJ b=true):RsF (aaS a b n) (aaS b a n) a b:=by
 obtain⟨h1,h2,h3⟩:=agZ hn ha hb
 have hx:=aaU a b n
 refine⟨by unfold aY;omega,by unfold aY;rw[h1,List.length_reverse],fun j hj=>?_,fun i j hij hj=>?_,fun j hj=>?_⟩
 ·rw[h1,show((aaS a b n).length:Int) - 1 - j=(((aaS a b n).length - 1 - j:Nat):Int) by omega,dI (by rw[List.length_reverse];omega),dI hj,List.getElem_reverse]
  congr 1
  omega
 ·rw[dI (by omega),dI hj]
  exact List.pairwise_iff_getElem.1 h2 i j (by omega) hj hij
 ·rw[dI hj];exact h3 _ (List.getElem_mem _)
def agQ (A:Alg) (H:SH) (J:SJ) (X Y:List Pt) (a b:Pt) (k:Int):Bool:=A.ite (A.ite (A.ite (A.ite (A.ite (A.not (H.all [a,b,dP A X k])) true (A.not (H.all [a,dP A X k,dP A X k]))) true (A.not (A.ite (H.all [a,b,dP A X k]) (J.on a b (dP A X k)) false))) true (A.not (A.eqP (dP A X k) (dP A Y (A.bin .sub .i64 (A.bin .sub .i64 (A.len X) 1) k))))) true (A.eqP (dP A X k) a)) true (A.eqP (dP A X k) b)
structure RsS (A:Alg) (F:SF) (H:SH) (J:SJ) (X Y:List Pt) (a b:Pt) (k:Int) (r:Rt):Prop where
 o1:A.cmp .leq 0 k=true
 o3:A.cmp .leq 0 (A.bin .sub .i64 (A.bin .sub .i64 (A.len X) 1) k)=true
 o4:A.cmp .lss (A.bin .sub .i64 (A.bin .sub .i64 (A.len X) 1) k) (A.len Y)=true
 bad:agQ A H J X Y a b k=false
 far:A.cmp .geq (F.cmp r (H.dot a (dP A X k) (dP A X k))) 0=false
 nx:RsJ a b X (k+1) (H.dot a (dP A X k) (dP A X k))
 ad:A.bin .add .i64 k 1=k+1
 ms:(aY X - (k+1)).toNat < (aY X - k).toNat
 im: ∀ c d,d=true→A.imp c d=true
theorem ag4 {X Y:List Pt} {a b:Pt} {k:Int} {r:Rt} (f:RsF X Y a b) (h:RsJ a b X k r) (A:Alg) (hA:A=aA) (F:SF) (hF:F=aO) (H:SH) (hH:H=bD) (J:SJ) (hJ:J=kM) (hb:A.cmp .lss k (A.len X)=true):RsS A F H J X Y a b k r:=by
 subst hA hF hH hJ
 obtain⟨k0,k1,q,hq,hr⟩:=h
 have hb:k < aY X:=of_decide_eq_true hb
 have hlX:aY X=(X.length:Int):=rfl
 have hlY:aY Y=(Y.length:Int):=rfl
 have n0:=f.n0
 have hl:=f.len
 have e2:aA.bin .sub .i64 (aA.bin .sub .i64 (aA.len X) 1) k=(X.length:Int) - 1 - k:=by
  show IntKind.i64.wrap (IntKind.i64.wrap ((X.length:Int) - 1) - k)=_
  have w1:IntKind.i64.wrap ((X.length:Int) - 1)=(X.length:Int) - 1:=by rw[IntKind.wrap_i64];omega
  rw[w1,IntKind.wrap_i64];omega
 have ek:((k.toNat:Nat):Int)=k:=Int.toNat_of_nonneg k0
 have hk:k.toNat < X.length:=by omega
 obtain⟨h1,h2,h3,h4,h5,h6⟩:=acA (f.on k.toNat hk)
 have bk:=f.bk k.toNat hk
 rw[ek] at h3 h4 h5 h6 bk
 have it: ∀ u v:Bool,aA.ite u true v=(u||v):=fun u v=>by cases u <;> rfl
 have hg:dP aA X k=pC X k:=rfl
 have hgY:dP aA Y ((X.length:Int) - 1 - k)=pC X k:=bk
 have a1:bD.all [a,b,pC X k]=true:=AL h1 h2 h3
 have a2:bD.all [a,pC X k,pC X k]=true:=AL h1 h3 h3
 have a3:kM.on a b (pC X k)=true:=h4
 have ne: ∀ x y:Pt,x≠y→aA.eqP x y=false:=fun x y h=>decide_eq_false h
 have ee: ∀ x:Pt,aA.eqP x x=true:=fun x=>decide_eq_true rfl
 refine {
  o1:=bJ _ rfl _ _ k0
  o3:=by rw[e2];exact bJ _ rfl _ _ (by omega)
  o4:=by rw[e2];exact bH _ rfl _ _ (by show _ < aY Y;omega)
  bad:=by
   unfold agQ
   rw[e2,hg,hgY,a1,a2,a3,ee,ne _ _ h5,ne _ _ h6];rfl
  far:=?_
  nx:=⟨by omega,by omega,gY a (pC X k) (pC X k),agN h1 h3,fun j j0 j1=>by have:=f.far k.toNat j (by omega) j1;rw[ek] at this;exact this⟩
  ad:=by show IntKind.i64.wrap _=_;rw[IntKind.wrap_i64];omega
  ms:=by omega
  im:=fun c d h=>by rw[h];cases c <;> rfl }
 have hd:=hr k.toNat (by omega) hk
 rw[ek] at hd
 have ec:=(hq.cmp (agN h1 h3) (by decide)).2
 rw[hg,ec]
 unfold cZ
 rw[if_pos hd]
 rfl
structure RsP (A:Alg) (H:SH) (I:SP) (a b:Pt) (l:List Pt):Prop where
 o1:A.cmp .lss (A.len l) 1000=true
 n1:A.cmp .lss (A.len (I.srt l)) 1000=true
 c1:A.cmp .lss (A.len (I.btw a b (I.srt l))) 1000000=true
 c2:A.cmp .lss (A.len (I.btw b a (I.srt l))) 1000000=true
 f:RsF (I.btw a b (I.srt l)) (I.btw b a (I.srt l)) a b
 ne:A.cmp .neq (A.len (I.btw a b (I.srt l))) (A.len (I.btw b a (I.srt l)))=false
 i0:RsJ a b (I.btw a b (I.srt l)) 0 (H.whole 0)
 w1:A.cmp .leq (-9223372036854775808) 0=true
 w2:A.cmp .lss 0 9223372036854775808=true
theorem ag3 (A:Alg) (hA:A=aA) (H:SH) (hH:H=bD) (I:SP) (hI:I=dL) (a b:Pt) (l:List Pt) (h:A.ite (A.ite (A.cmp .gtr (A.len l) 20) true (A.not (H.all [a]))) true (A.not (H.all [b]))=false):RsP A H I a b l:=by
 have it: ∀ u v:Bool,A.ite u true v=(u||v):=fun u v=>by subst hA;cases u <;> rfl
 rw[it,Bool.or_eq_false_iff] at h
 obtain⟨h1,h2⟩:=acM hA h.1
 have pf:=afT A hA I hI a a a h1
 subst hA hH hI
 have ha:dJ a=true:=by have h:(!(dJ a&&true))=false:=h2;simpa using h
 have hb:dJ b=true:=by have h:(!(dJ b&&true))=false:=h.2;simpa using h
 have hs:(dL.srt l).length≤20:=Nat.le_trans (acO l l.length) h1
 have f:RsF (dL.btw a b (dL.srt l)) (dL.btw b a (dL.srt l)) a b:=ag2 hs (show Z4 (dL.srt l) from Vi l l.length) ha hb
 refine⟨pf.o1,pf.n1,pf.b1 a b,pf.b1 b a,f,?_,⟨Int.le_refl _,Int.natCast_nonneg _,0,?_,fun j _ hj=>agS (f.on j hj)⟩,bJ _ rfl _ _ (by decide),bH _ rfl _ _ (by decide)⟩
 ·show(aY (dL.btw a b (dL.srt l)) != aY (dL.btw b a (dL.srt l)))=false
  rw[f.len];simp
 ·exact Cal.int (k:=485) (z:=0) (by show(0:Int).natAbs < 2 ^ 485;exact Nat.pos_of_ne_zero (by simp)) (by decide) (by decide)
def uY3 (A:Alg) (F:SF) (H:SH) (J:SJ) (I:SP):List (Nat×bU):=(7,aR [] A (Zy)) :: (9,aR [.a (.s .pt)] A (afH A I)) :: (13,aC [.v] A (C1 H)) :: (14,aR [.a .v, .a .v, .a (.s .pt)] A (aeF A I)) :: (16,aC [.v] A (qO A H)) :: (17,aC [.v, .v, .v] A (Mn A H J)) :: (18,aC [.v, .v] A (PQ H)) :: (19,aC [.v, .v] A (A1 F)) :: ([])
theorem agY:COK Tryz.prog (aN (uY3 aA aO bD kM dL)):=aB ac1 (aB adM (aB z9 (aB acK (aB rC (aB N6 (aB agT (aB Gs (bC))))))))
theorem agM:aJ Tryz.prog 4 (aR [.a .v, .a .v, .a (.s .pt)] aA (agW)):=by
 refine aW (un:=⟨false,some [0,1,2,3,4,6,7,8,9,10,11,12,13,14,15,16,19,32,47,52,114,122]⟩) tok agY aL (fn:=Tryz.f4) ?_
 intro w Wr args bs r hg ho hWr A L k hA hL hk
 obtain⟨F,hF⟩:=exE aO
 obtain⟨H,hH⟩:=exE bD
 obtain⟨I,hI⟩:=exE dL
 obtain⟨J,hJ⟩:=exE kM
 try rw[← hF]
 try rw[← hH]
 try rw[← hI]
 try rw[← hJ]
 try rw[← hA]
 unfold agW at hg
 split at hg <;> cases hg
 rename_i a b l
 have pf:=fun h=>ag3 A hA H hH I hI a b l h
 cbv
 repeat' with_reducible first | (intro hb;cbv) | refine UM ?_ ?_
 ·exfalso;subst hA;cases hb
 ·exact hk _ _ (bW.pure rfl rfl fun ρ=>dT rfl)
 ·exact(pf hb).o1
 ·exact(pf hb).n1
 ·exact(pf hb).n1
 ·exfalso
  have e:=(pf (by assumption)).ne
  rw[e] at hb;cases hb
 ·exact(pf (by assumption)).w1
 ·exact(pf (by assumption)).w2
 have pf:=pf (by assumption)
 have f:=pf.f
 refine hL _ _ _ (aQ (un:=⟨false,some [0,1,2,3,4,6,7,8,9,10,11,12,13,14,15,16,19,32,47,52,114,122]⟩) tok agY aL (fun p:Int×Rt=>⟨[(11,⟨[], .c (.s (.int .i64 p.1))⟩),(10,⟨[], .c (.s (.hp 6 0))⟩),(9,⟨[], .c (.s (.hs 5))⟩),(8,⟨[], .c (.s (.hs 4))⟩),(6,⟨[], .c (.s (.tt false))⟩),(4,⟨[], .c (.s (.hp 2 0))⟩),(3,⟨[], .c (.s (.hp 1 0))⟩)],[(0, .vec false .pt l),(1, .fix true [.P a]),(2, .fix true [.P b]),(3, .vec true .pt (I.srt l)),(4, .vec true .pt (I.btw a b (I.srt l))),(5, .vec true .pt (I.btw b a (I.srt l))),(6, .fix true [.R p.2])],7⟩)
  (fun p=>RsJ a b (I.btw a b (I.srt l)) p.1 p.2) (fun p=>(aY (I.btw a b (I.srt l)) - p.1).toNat) (0,H.whole 0) pf.i0 ?_ (fun _ i hi=>by have:=hWr i hi;simp at this;show i < 7;omega) ?_)
 ·exact⟨⟨⟨rfl,rfl,fun _=>rfl⟩,⟨rfl,rfl,fun _=>rfl⟩,⟨rfl,rfl,fun _=>rfl⟩,⟨rfl,rfl,fun _=>rfl⟩,⟨rfl,rfl,fun _=>rfl⟩,⟨rfl,rfl,fun _=>rfl⟩,⟨rfl,rfl,fun _=>rfl⟩,trivial⟩,⟨aF rfl,aF rfl,aF rfl,aF rfl,aF rfl,aF rfl,aF rfl,trivial⟩,rfl,rfl⟩
 clear pf
 rintro⟨k,r⟩ hJ2 A2 L2 k2 hA2 hL2 hnext hexit hret
 have st:=fun hb=>ag4 f hJ2 A2 hA2 F hF H hH J hJ hb
 clear hJ2
 rw[← hA2, ← hF, ← hH, ← hJ, ← hI]
 with_reducible refine fA fun kk hn hx=>?_
 cbv
 repeat' with_reducible first | (intro hb;cbv) | refine UM ?_ ?_
 rotate_left
 ·refine hx (.exit 0) _ (fun h=>by cases h) ?_
  clear hn hx kk
  cbv
  apply hexit
  clear hexit hnext hret st
  cbv
  exact hk _ _ (bW.pure rfl rfl fun ρ=>dT rfl)
 with_reducible refine hn _ ?_
 clear hn hx kk
 have st:=st hb
 with_reducible refine fA fun k4 hn4 hx4=>?_
 with_reducible refine ZM fun k5 n5 e5 x5 r5=>?_
 with_reducible refine fA fun kk hn hx=>?_
 cbv
 repeat' with_reducible first | (intro hb;cbv) | refine UM ?_ ?_
 all_goals first | exact st.o1 | assumption | skip
 with_reducible refine hn _ ?_
 clear hn hx kk
 with_reducible refine fA fun kk hn hx=>?_
 cbv
 repeat' with_reducible first | (intro hb;cbv) | refine UM ?_ ?_
 all_goals first | exact st.o1 | assumption | skip
 with_reducible refine hn _ ?_
 clear hn hx kk
 with_reducible refine fA fun kk hn hx=>?_
 cbv
 repeat' with_reducible first | (intro hb;cbv) | refine UM ?_ ?_
 all_goals first | exact st.im _ _ st.o1 | exact st.im _ _ (by assumption) | exact st.im _ _ st.o3 | exact st.im _ _ st.o4 | skip
 ·exfalso
  have e:=st.bad
  unfold agQ at e
  have e2:=hb.symm.trans e
  cases e2
 with_reducible refine hn _ ?_
 clear hn hx kk
 cbv
 repeat' with_reducible first | (intro hb;cbv) | refine UM ?_ ?_
 ·exfalso
  have e2:=hb.symm.trans st.far
  cases e2
 refine n5 _ ?_
 refine hn4 _ ?_
 clear n5 e5 x5 r5 hn4 hx4
 cbv
 refine hnext _ (k+1,_) st.nx st.ms ?_
 have ead:=st.ad
 subst hA2 hA hH
 exact⟨⟨⟨rfl,rfl,leI ead⟩,⟨rfl,rfl,fun _=>rfl⟩,⟨rfl,rfl,fun _=>rfl⟩,⟨rfl,rfl,fun _=>rfl⟩,⟨rfl,rfl,fun _=>rfl⟩,⟨rfl,rfl,fun _=>rfl⟩,⟨rfl,rfl,fun _=>rfl⟩,trivial⟩,⟨aF rfl,aF rfl,aF rfl,aF rfl,aF rfl,aF rfl,aF rfl,trivial⟩,rfl,rfl⟩
end Go.Eng
