
import Derived.Test.YtbfknjpggfkgjaaGreatYLF0
import Derived.Test.YtbfknjpggfkgjaaGreatSpecR9
set_option linter.all false
set_option exponentiation.threshold 3000
set_option maxRecDepth 100000
set_option maxHeartbeats 4000000
namespace Go.Eng
open Go.Proofs
def asK (A:Alg):List CV→List Blk→Option LW
 | [.s (.int .u8 a), .s (.bool up)],[]=>some ⟨[A.cmp .leq 0 a,A.cmp .lss a 256], .c (.s (.bool true)),[],[]⟩
 | _,_=>none
def asF (A:Alg) (a:Int):Int:=A.bin .add .i64 (A.wrap .i64 (A.bin .rem .u8 a 6)) 1
theorem asG {A:Alg} (hA:A=aA) {a:Int} (h0:0≤a) (h1:a < 256): ∃ w,asF A a=w∧1≤w∧w≤6:=by
 subst hA
 refine⟨_,rfl,?_⟩
 have e:aA.bin .rem .u8 a 6=a.tmod 6:=rfl
 have t:a.tmod 6=a % 6:=Int.tmod_eq_emod_of_nonneg h0
 unfold asF
 rw[e,t]
 have w1:aA.wrap .i64 (a % 6)=a % 6:=by show IntKind.i64.wrap _=_;rw[IntKind.wrap_i64];omega
 rw[w1]
 have w2:aA.bin .add .i64 (a % 6) 1=a % 6+1:=by show IntKind.i64.wrap _=_;rw[IntKind.wrap_i64];omega
 rw[w2]
 omega
def pcH (H:SH) (x0 x1 y0 y1:Int):PcR:=(0,0,0,⟨H.whole x0,H.whole x1⟩,⟨H.whole y0,H.whole y1⟩,⟨H.whole y0,H.whole y1⟩,())
def m2A (A:Alg) (w:Int):Int:=A.bin .mul .i64 2 w
def m3A (A:Alg) (w:Int):Int:=A.bin .mul .i64 3 w
def hgA (A:Alg) (H:SH) (w:Int) (up:Bool):List PcR:=match up with
 | true=>A.app [pcH H 0 (m2A A w) 0 (m2A A w),pcH H (m2A A w) (m3A A w) 0 w] [pcH H (m2A A w) (m3A A w) w (m2A A w)]
 | false=>[pcH H 0 (m2A A w) 0 (m2A A w),pcH H (m2A A w) (m3A A w) 0 w]
structure HgB (A:Alg) (w:Int):Prop where
 b1:A.cmp .leq (-9223372036854775808) w=true
 b2:A.cmp .lss w 9223372036854775808=true
 b3:A.cmp .leq (-9223372036854775808) (m2A A w)=true
 b4:A.cmp .lss (m2A A w) 9223372036854775808=true
 b5:A.cmp .leq (-9223372036854775808) (m3A A w)=true
 b6:A.cmp .lss (m3A A w) 9223372036854775808=true
 b7:A.cmp .leq (-9223372036854775808) 0=true
 b8:A.cmp .lss 0 9223372036854775808=true
theorem asY {A:Alg} (hA:A=aA) {w:Int} (w0:1≤w) (w1:w≤6):HgB A w:=by
 subst hA
 have e2:m2A aA w=2*w:=by show IntKind.i64.wrap _=_;rw[IntKind.wrap_i64];omega
 have e3:m3A aA w=3*w:=by show IntKind.i64.wrap _=_;rw[IntKind.wrap_i64];omega
 exact⟨bJ _ rfl _ _ (by omega),bH _ rfl _ _ (by omega),by rw[e2];exact bJ _ rfl _ _ (by omega),by rw[e2];exact bH _ rfl _ _ (by omega),by rw[e3];exact bJ _ rfl _ _ (by omega),by rw[e3];exact bH _ rfl _ _ (by omega),bJ _ rfl _ _ (by decide),bH _ rfl _ _ (by decide)⟩
def wtH (up:Bool):Int:=if up then 13 else 9
structure HgF (A:Alg) (I:SP) (P:SNd) (M:List PcR) (T:List I3) (up:Bool):Prop where
 o1:A.cmp .lss (A.len M) 10000=true
 o2:A.cmp .lss (A.len (I.srt (P.cors M))) 1000=true
 o3:A.cmp .lss (A.len (P.all (I.srt (P.cors M)) M)) 30000=true
 nl:A.cmp .neq (A.len T) (wtH up)=false
 f:anU T (wtH up)
 lt:(T.length:Int) < 100
theorem asM (A:Alg) (hA:A=aA) (H:SH) (hH:H=bD) (I:SP) (hI:I=f7) (P:SNd) (hP:P=dT) {w:Int} (w0:1≤w) (w1:w≤6) (up:Bool) :
  HgF A I P (hgA A H w up) (P.srt3 (P.tris (I.srt (P.pts (P.all (I.srt (P.cors (hgA A H w up))) (hgA A H w up)))) (P.all (I.srt (P.cors (hgA A H w up))) (hgA A H w up)))) up:=by
 subst hA hH hI hP
 have e2:m2A aA w=2*w:=by show IntKind.i64.wrap _=_;rw[IntKind.wrap_i64];omega
 have e3:m3A aA w=3*w:=by show IntKind.i64.wrap _=_;rw[IntKind.wrap_i64];omega
 have e:hgA aA bD w up=z5 w up:=by
  unfold hgA z5
  rw[e2,e3]
  cases up <;> rfl
 rw[e]
 have F:anU (anV (z5 w up)) (wtH up):=aqH w0 w1 up
 have hM:(z5 w up).length≤3:=by unfold z5;cases up <;> simp
 have hn:(f7.srt (dT.cors (z5 w up))).length≤4*(z5 w up).length:=Nat.le_trans (acO _ _) (aiC (z5 w up) (z5 w up).length)
 have hT:((anV (z5 w up)).length:Int)=wtH up:=F.len
 have hw:wtH up≤13:=by unfold wtH;split <;> decide
 have hall:((dT.all (f7.srt (dT.cors (z5 w up))) (z5 w up)).length:Int)=wtH up:=by
  rw[← hT]
  show _=((ajM cmp3 _).length:Int)
  unfold ajM
  rw[List.length_mergeSort]
  show _=((List.map _ _).length:Int)
  rw[List.length_map]
 have g1:((z5 w up).length:Int) < 10000:=by omega
 have g2:((f7.srt (dT.cors (z5 w up))).length:Int) < 1000:=by omega
 have g3:((dT.all (f7.srt (dT.cors (z5 w up))) (z5 w up)).length:Int) < 30000:=by omega
 refine⟨bH _ rfl _ _ g1,bH _ rfl _ _ g2,bH _ rfl _ _ g3,?_,F,by show((anV (z5 w up)).length:Int) < 100;omega⟩
 show(((anV (z5 w up)).length:Int) != wtH up)=false
 rw[hT];simp
def gtT (A:Alg) (T:List I3) (k:Int):I3:=A.get T k (0,0,0)
def cdH (A:Alg) (x y a b:Int):Bool:=A.ite (A.cmp .eql x a) (A.cmp .eql y b) false
theorem auI {A:Alg} (hA:A=aA) (x y a b:Int):cdH A x y a b=decide (x=a∧y=b):=by
 subst hA
 unfold cdH
 have q: ∀ x y:Int,aA.cmp .eql x y=(x == y):=fun _ _=>rfl
 have ia: ∀ u v:Bool,aA.ite u v false=(u&&v):=fun u v=>by cases u <;> rfl
 rw[q,q,ia]
 by_cases h1:x=a <;> by_cases h2:y=b <;> simp[h1,h2]
structure HhS (A:Alg) (T:List I3) (a b:Int) (j h p q x y:Int):Prop where
 n11:cdH A x y a b=true→cdH A x y b a=true→J4 T a b j (h+1) (A.bin .add .i64 p 1) (A.bin .add .i64 q 1)
 n10:cdH A x y a b=true→cdH A x y b a=false→J4 T a b j (h+1) (A.bin .add .i64 p 1) q
 n01:cdH A x y a b=false→cdH A x y b a=true→J4 T a b j (h+1) p (A.bin .add .i64 q 1)
 n00:cdH A x y a b=false→cdH A x y b a=false→J4 T a b j (h+1) p q
theorem atT {A:Alg} (hA:A=aA) {T:List I3} {a b j h p q:Int} (hl:(T.length:Int) < 100) (hJ:J4 T a b j h p q) (hh:h < 3) {x y:Int} (hx:(edK (T.getD j.toNat (0,0,0)) h).1=x) (hy:(edK (T.getD j.toNat (0,0,0)) h).2=y):HhS A T a b j h p q x y:=by
 obtain⟨p0,p1,q0,q1⟩:=auH hJ hl
 have s:=at9 hJ hh
 rw[hx,hy] at s
 have ad: ∀ z:Int,0≤z→z≤400→A.bin .add .i64 z 1=z+1:=fun z h0 h1=>by subst hA;show IntKind.i64.wrap _=_;rw[IntKind.wrap_i64];omega
 refine⟨fun c d=>?_,fun c d=>?_,fun c d=>?_,fun c d=>?_⟩
 all_goals (rw[auI hA] at c d;simp only[decide_eq_true_eq,decide_eq_false_iff_not] at c d)
 ·rw[if_pos c,if_pos d] at s;rw[ad p p0 p1,ad q q0 q1];exact s
 ·rw[if_pos c,if_neg d] at s;rw[ad p p0 p1];simpa using s
 ·rw[if_neg c,if_pos d] at s;rw[ad q q0 q1];simpa using s
 ·rw[if_neg c,if_neg d] at s;simpa using s
structure HiS (A:Alg) (T:List I3) (i:Int):Prop where
 o1:A.cmp .leq 0 i=true
 ad:A.bin .add .i64 i 1=i+1
 ms:((T.length:Int) - (i+1)).toNat < ((T.length:Int) - i).toNat
 lt:i < (T.length:Int)
theorem at5 {A:Alg} (hA:A=aA) {T:List I3} {i:Int} (hl:(T.length:Int) < 100) (i0:0≤i) (hb:A.cmp .lss i (A.len T)=true):HiS A T i:=by
 subst hA
 have hb:i < (T.length:Int):=of_decide_eq_true hb
 exact⟨bJ _ rfl _ _ i0,by show IntKind.i64.wrap _=_;rw[IntKind.wrap_i64];omega,by omega,hb⟩
theorem at4 {A:Alg} (hA:A=aA) {T:List I3} {i:Int} (hb:A.cmp .lss i (A.len T)=false): ¬ i < (T.length:Int):=by
 subst hA
 exact of_decide_eq_false hb
structure HoS (A:Alg) (T:List I3) (i k o q:Int):Prop where
 bad:A.ite (A.cmp .neq 1 1) true (A.cmp .gtr q 1)=false
 nx:J2 T i (k+1) (A.bin .sub .i64 (A.bin .add .i64 o 1) q)
theorem auE {A:Alg} (hA:A=aA) {T:List I3} {i k o q:Int} (hl:(T.length:Int) < 100) (i0:0≤i) (hi:i < (T.length:Int)) (hJ:J2 T i k o) (hk:k < 3) (hq:q=aoG (aoL T) (edK (T.getD i.toNat (0,0,0)) k).2 (edK (T.getD i.toNat (0,0,0)) k).1) (h0:0≤q) (h1:q≤1):HoS A T i k o q:=by
 subst hA
 have hb:=hJ.b
 have e:aA.bin .sub .i64 (aA.bin .add .i64 o 1) q=o+1 - q:=by
  show IntKind.i64.wrap (IntKind.i64.wrap (o+1) - q)=_
  have w1:IntKind.i64.wrap (o+1)=o+1:=by rw[IntKind.wrap_i64];omega
  rw[w1,IntKind.wrap_i64];omega
 refine⟨?_,?_⟩
 ·show(if((1:Int) != 1) then true else decide (q > 1))=false
  rw[if_neg (by decide)]
  exact decide_eq_false (by omega)
 ·rw[e,hq]
  exact at8 i0 hJ hk ⟨by omega,by omega⟩
theorem h3 {k:Int} (h0:0≤k) (h:k≤3):k=0∨k=1∨k=2∨k=3:=by omega
def lF3 (A:Alg) (H:SH) (I:SP) (P:SNd):List (Nat×bU):=(8,aR [] A (amV)) :: (21,aC [.v] A (qO A H)) :: (19,aR [.a (.s (.row [.int .i64, .int .i64, .int .i64, .P, .P, .P]))] A (an2 A I P)) :: ([])
theorem ar1:COK Tryz.prog (aN (lF3 aA bD f7 dT)):=aB am2 (aB rC (aB anK (bC)))
theorem aoQ:aJ Tryz.prog 6 (aR [.a .v, .a .v] aA (asK aA)):=by
 refine aW (un:=⟨false,some [0,1,4,5,6,7,8,9,10,11,12,13,14,15,16,17,18,19,20,21,23,54,68,73,78,82,105,109,133,157,165]⟩) tok ar1 aL (fn:=Tryz.f6) ?_
 intro w Wr args bs r hg ho hWr A L k hA hL hk
 obtain⟨H,hH⟩:=exE bD
 obtain⟨I,hI⟩:=exE f7
 obtain⟨P,hP⟩:=exE dT
 try rw[← hH]
 try rw[← hI]
 try rw[← hP]
 try rw[← hA]
 unfold asK at hg
 split at hg <;> cases hg
 rename_i a up
 have a1:0≤a:=of_decide_eq_true (aG ho).1
 have a2:a < 256:=of_decide_eq_true (aG (aG ho).2).1
 clear ho
 obtain⟨w,ew,w0,w1⟩:=asG hA a1 a2
 clear a1 a2
 unfold asF at ew
 have B:=asY hA w0 w1
 have Z:=asM A hA H hH I hI P hP w0 w1 up
 obtain⟨p,hp⟩: ∃ p,p=I.srt (P.pts (P.all (I.srt (P.cors (hgA A H w up))) (hgA A H w up))):=⟨_,rfl⟩
 obtain⟨T,hT⟩: ∃ T,T=P.srt3 (P.tris (I.srt (P.pts (P.all (I.srt (P.cors (hgA A H w up))) (hgA A H w up)))) (P.all (I.srt (P.cors (hgA A H w up))) (hgA A H w up))):=⟨_,rfl⟩
 rw[← hT] at Z
 subst ew
 cases up
 ·cbv
  repeat' with_reducible first | (intro hb;cbv) | refine UM ?_ ?_
  all_goals first | contradiction | exact B.b1 | exact B.b2 | exact B.b3 | exact B.b4 | exact B.b5 | exact B.b6 | exact B.b7 | exact B.b8 | (clear hk hL;subst hp hT;exact Z.o1) | (clear hk hL;subst hp hT;exact Z.o2) | (clear hk hL;subst hp hT;exact Z.o3) | (clear hk hL;subst hp hT;exact absurd (hb.symm.trans Z.nl) (by decide)) | (clear hk hL;subst hA;kernel_rfl) | (exfalso;clear hk hL;subst hA;cases hb) | skip
  refine hL _ _ _ (gM (un:=⟨false,some [0,1,4,5,6,7,8,9,10,11,12,13,14,15,16,17,18,19,20,21,23,54,68,73,78,82,105,109,133,157,165]⟩) tok ar1 aL 0 (fun i hi=>by have:=hWr i hi;simp at this) (fun q:Int×Int=>⟨[(14,⟨[], .c (.s (.int .i64 q.1))⟩),(13,⟨[], .c (.s (.int .i64 q.2))⟩),(11,⟨[], .c (.s (.hp 7 0))⟩),(4,⟨[], .c (.s (.tt false))⟩)],[(7, .fix true [.s (.hs 5), .s (.hs 6), .s .nils]),(5, .vec true .pt p),(6, .vec true .i3 T)],8⟩)
   (fun q=>J1 T q.1 q.2) (fun q=>((T.length:Int) - q.1).toNat) (0,0) (at0 T) [] ?_ (fun _=>Nat.zero_le _) ?_)
  ·subst hp hT
   exact⟨⟨⟨rfl,rfl,fun _=>rfl⟩,⟨rfl,rfl,fun _=>rfl⟩,⟨rfl,rfl,fun _=>rfl⟩,⟨rfl,rfl,fun _=>rfl⟩,trivial⟩,⟨⟨rfl,rfl,fun _=>rfl⟩,⟨rfl,rfl,rfl,rfl,fun h=>h⟩,⟨rfl,rfl,rfl,rfl,fun h=>h⟩,trivial⟩,rfl,rfl,rfl,rfl⟩
  clear hp hT B
  rintro⟨i,o⟩ hJ A2 L2 k2 hA2 hL2 hnext hexit hret
  have eA:A2=A:=hA2.trans hA.symm
  subst eA
  have hJ:J1 T i o:=hJ
  have i0:=hJ.i0
  rw[← hA2, ← hH, ← hI, ← hP]
  cbv
  repeat' with_reducible first | (intro hb;cbv) | refine UM ?_ ?_
  rotate_left
  ·have e7:=at6 Z.f hJ (at4 hA2 hb)
   subst e7
   apply hexit
   clear hexit hnext hret
   cbv
   exact hk _ _ (bW.pure rfl rfl fun ρ=>dB (by subst hA2;rfl))
  have hi:=at5 hA2 Z.lt i0 hb
  have hib:=hb
  clear hb
  refine hL2 _ _ _ (gM (un:=⟨false,some [0,1,4,5,6,7,8,9,10,11,12,13,14,15,16,17,18,19,20,21,23,54,68,73,78,82,105,109,133,157,165]⟩) tok ar1 aL 0 (fun i hi=>by have:=hWr i hi;simp at this) (fun q:Int×Int=>⟨[(15,⟨[], .c (.s (.lit .i64 q.1))⟩),(14,⟨[], .c (.s (.int .i64 i))⟩),(13,⟨[], .c (.s (.int .i64 q.2))⟩),(11,⟨[], .c (.s (.hp 7 0))⟩),(4,⟨[], .c (.s (.tt false))⟩)],[(7, .fix true [.s (.hs 5), .s (.hs 6), .s .nils]),(5, .vec true .pt p),(6, .vec true .i3 T)],8⟩)
   (fun q=>J2 T i q.1 q.2) (fun q=>(3 - q.1).toNat) (0,o) (at2 hJ) [] ?_ (fun _=>Nat.zero_le _) ?_)
  ·exact⟨⟨⟨rfl,rfl,fun _=>rfl⟩,⟨rfl,rfl,fun _=>rfl⟩,⟨rfl,rfl,fun _=>rfl⟩,⟨rfl,rfl,fun _=>rfl⟩,⟨rfl,rfl,fun _=>rfl⟩,trivial⟩,⟨⟨rfl,rfl,fun _=>rfl⟩,⟨rfl,rfl,rfl,rfl,fun h=>h⟩,⟨rfl,rfl,rfl,rfl,fun h=>h⟩,trivial⟩,rfl,rfl,rfl,rfl⟩
  rintro⟨z,o2⟩ hJ3 A3 L3 k3 hA3 hL3 hnext3 hexit3 hret3
  have eA:A3=A2:=hA3.trans hA2.symm
  subst eA
  have hJ3:J2 T i z o2:=hJ3
  rw[← hA3, ← hH, ← hI, ← hP]
  rcases h3 hJ3.k0 hJ3.k1 with rfl | rfl | rfl | rfl
  ·cbv
   repeat' with_reducible first | (intro hb;cbv) | refine UM ?_ ?_
   all_goals first | exact hi.o1 | exact hib | skip
   obtain⟨a,ha⟩: ∃ a,(gtT A3 T i).1=a:=⟨_,rfl⟩
   obtain⟨b,hb'⟩: ∃ b,(gtT A3 T i).2.1=b:=⟨_,rfl⟩
   have ea:(edK (T.getD i.toNat (0,0,0)) 0).1=a:=by subst hA3;exact ha
   have eb:(edK (T.getD i.toNat (0,0,0)) 0).2=b:=by subst hA3;exact hb'
   refine hL3 _ _ _ (gM (un:=⟨false,some [0,1,4,5,6,7,8,9,10,11,12,13,14,15,16,17,18,19,20,21,23,54,68,73,78,82,105,109,133,157,165]⟩) tok ar1 aL 0 (fun i hi=>by have:=hWr i hi;simp at this) (fun q:Int×Int×Int=>⟨[(20,⟨[], .c (.s (.int .i64 q.1))⟩),(19,⟨[], .c (.s (.int .i64 q.2.2))⟩),(18,⟨[], .c (.s (.int .i64 q.2.1))⟩),(17,⟨[], .c (.s (.int .i64 b))⟩),(16,⟨[], .c (.s (.int .i64 a))⟩),(15,⟨[], .c (.s (.lit .i64 0))⟩),(14,⟨[], .c (.s (.int .i64 i))⟩),(13,⟨[], .c (.s (.int .i64 o2))⟩),(11,⟨[], .c (.s (.hp 7 0))⟩),(4,⟨[], .c (.s (.tt false))⟩)],[(7, .fix true [.s (.hs 5), .s (.hs 6), .s .nils]),(5, .vec true .pt p),(6, .vec true .i3 T)],8⟩)
    (fun q=>J3 T a b q.1 q.2.1 q.2.2) (fun q=>((T.length:Int) - q.1).toNat) (0,0,0) (atO T a b) [] ?_ (fun _=>Nat.zero_le _) ?_)
   ·exact⟨⟨⟨rfl,rfl,fun _=>rfl⟩,⟨rfl,rfl,fun _=>rfl⟩,⟨rfl,rfl,fun _=>rfl⟩,⟨rfl,rfl,leI hb'⟩,⟨rfl,rfl,leI ha⟩,⟨rfl,rfl,fun _=>rfl⟩,⟨rfl,rfl,fun _=>rfl⟩,⟨rfl,rfl,fun _=>rfl⟩,⟨rfl,rfl,fun _=>rfl⟩,⟨rfl,rfl,fun _=>rfl⟩,trivial⟩,⟨⟨rfl,rfl,fun _=>rfl⟩,⟨rfl,rfl,rfl,rfl,fun h=>h⟩,⟨rfl,rfl,rfl,rfl,fun h=>h⟩,trivial⟩,rfl,rfl,rfl,rfl⟩
   clear ha hb'
   rintro⟨j,c,d⟩ hJ4 A4 L4 k4 hA4 hL4 hnext4 hexit4 hret4
   have eA:A4=A3:=hA4.trans hA3.symm
   subst eA
   have hJ4:J3 T a b j c d:=hJ4
   rw[← hA4, ← hH, ← hI, ← hP]
   cbv
   repeat' with_reducible first | (intro hb;cbv) | refine UM ?_ ?_
   rotate_left
   ·have he:=atR hJ4 (at4 hA4 hb)
    have kn:=auF Z.f i0 hi.lt (k:=0) (by decide) (by decide)
    have c1:c=1:=by rw[he.1, ← ea, ← eb];exact kn.1
    have hd:d=aoG (aoL T) (edK (T.getD i.toNat (0,0,0)) 0).2 (edK (T.getD i.toNat (0,0,0)) 0).1:=by rw[he.2, ← ea, ← eb]
    subst c1
    have ho:=auE hA4 Z.lt i0 hi.lt hJ3 (by decide) hd (by rw[hd];exact kn.2.1) (by rw[hd];exact kn.2.2)
    clear he kn hb
    apply hexit4
    clear hexit4 hnext4 hret4
    cbv
    repeat' with_reducible first | (intro hb;cbv) | refine UM ?_ ?_
    ·exact absurd (hb.symm.trans ho.bad) (by decide)
    refine hnext3 _ (1,_) [] ho.nx (by show((3:Int) - 1).toNat < ((3:Int) - 0).toNat;decide) ?_
    exact⟨⟨⟨rfl,rfl,fun _=>rfl⟩,⟨rfl,rfl,fun _=>rfl⟩,⟨rfl,rfl,fun _=>rfl⟩,⟨rfl,rfl,fun _=>rfl⟩,⟨rfl,rfl,fun _=>rfl⟩,trivial⟩,⟨⟨rfl,rfl,fun _=>rfl⟩,⟨rfl,rfl,rfl,rfl,fun h=>h⟩,⟨rfl,rfl,rfl,rfl,fun h=>h⟩,trivial⟩,rfl,rfl,rfl,rfl⟩
   have hj:=at5 hA4 Z.lt hJ4.j0 hb
   have hjb:=hb
   clear hb
   refine hL4 _ _ _ (gM (un:=⟨false,some [0,1,4,5,6,7,8,9,10,11,12,13,14,15,16,17,18,19,20,21,23,54,68,73,78,82,105,109,133,157,165]⟩) tok ar1 aL 0 (fun i hi=>by have:=hWr i hi;simp at this) (fun q:Int×Int×Int=>⟨[(21,⟨[], .c (.s (.lit .i64 q.1))⟩),(20,⟨[], .c (.s (.int .i64 j))⟩),(19,⟨[], .c (.s (.int .i64 q.2.2))⟩),(18,⟨[], .c (.s (.int .i64 q.2.1))⟩),(17,⟨[], .c (.s (.int .i64 b))⟩),(16,⟨[], .c (.s (.int .i64 a))⟩),(15,⟨[], .c (.s (.lit .i64 0))⟩),(14,⟨[], .c (.s (.int .i64 i))⟩),(13,⟨[], .c (.s (.int .i64 o2))⟩),(11,⟨[], .c (.s (.hp 7 0))⟩),(4,⟨[], .c (.s (.tt false))⟩)],[(7, .fix true [.s (.hs 5), .s (.hs 6), .s .nils]),(5, .vec true .pt p),(6, .vec true .i3 T)],8⟩)
    (fun q=>J4 T a b j q.1 q.2.1 q.2.2) (fun q=>(3 - q.1).toNat) (0,c,d) (atP hJ4) [] ?_ (fun _=>Nat.zero_le _) ?_)
   ·exact⟨⟨⟨rfl,rfl,fun _=>rfl⟩,⟨rfl,rfl,fun _=>rfl⟩,⟨rfl,rfl,fun _=>rfl⟩,⟨rfl,rfl,fun _=>rfl⟩,⟨rfl,rfl,fun _=>rfl⟩,⟨rfl,rfl,fun _=>rfl⟩,⟨rfl,rfl,fun _=>rfl⟩,⟨rfl,rfl,fun _=>rfl⟩,⟨rfl,rfl,fun _=>rfl⟩,⟨rfl,rfl,fun _=>rfl⟩,⟨rfl,rfl,fun _=>rfl⟩,trivial⟩,⟨⟨rfl,rfl,fun _=>rfl⟩,⟨rfl,rfl,rfl,rfl,fun h=>h⟩,⟨rfl,rfl,rfl,rfl,fun h=>h⟩,trivial⟩,rfl,rfl,rfl,rfl⟩
   rintro⟨y,c',d'⟩ hJ5 A5 L5 k5 hA5 hL5 hnext5 hexit5 hret5
   have eA:A5=A4:=hA5.trans hA4.symm
   subst eA
   have hJ5:J4 T a b j y c' d':=hJ5
   rw[← hA5, ← hH, ← hI, ← hP]
   rcases h3 hJ5.h0 hJ5.h1 with rfl | rfl | rfl | rfl
   ·have hs:=atT hA5 Z.lt hJ5 (by decide) (x:=(gtT A5 T j).1) (y:=(gtT A5 T j).2.1) (by subst hA5;rfl) (by subst hA5;rfl)
    have mlt:((3:Int) - 1).toNat < ((3:Int) - 0).toNat:=by decide
    with_reducible refine fA fun kk hn hx=>?_
    cbv
    with_reducible refine hn _ ?_
    clear hn hx kk
    with_reducible refine fA fun k7 hn7 hx7=>?_
    with_reducible refine ZM fun k8 n8 e8 x8 r8=>?_
    with_reducible refine fA fun kk hn hx=>?_
    cbv
    repeat' with_reducible first | (intro hb;cbv) | refine UM ?_ ?_
    all_goals first | (with_reducible refine sV hA5 ?_;first | exact hj.o1 | exact hjb) | exact hj.o1 | exact hjb | skip
    all_goals
     with_reducible refine hn _ ?_
     clear hn hx kk
     have g1:=hb
     clear hb
     cbv
     repeat' with_reducible first | (intro hb;cbv) | refine UM ?_ ?_
     all_goals first | (with_reducible refine sV hA5 ?_;first | exact hj.o1 | exact hjb) | exact hj.o1 | exact hjb | skip
     all_goals
      refine n8 _ ?_
      refine hn7 _ ?_
      clear n8 e8 x8 r8 hn7 hx7
      cbv
      first | (refine hnext5 _ (1,_,_) [] (hs.n11 g1 hb) mlt ?_;exact⟨⟨⟨rfl,rfl,fun _=>rfl⟩,⟨rfl,rfl,fun _=>rfl⟩,⟨rfl,rfl,fun _=>rfl⟩,⟨rfl,rfl,fun _=>rfl⟩,⟨rfl,rfl,fun _=>rfl⟩,⟨rfl,rfl,fun _=>rfl⟩,⟨rfl,rfl,fun _=>rfl⟩,⟨rfl,rfl,fun _=>rfl⟩,⟨rfl,rfl,fun _=>rfl⟩,⟨rfl,rfl,fun _=>rfl⟩,⟨rfl,rfl,fun _=>rfl⟩,trivial⟩,⟨⟨rfl,rfl,fun _=>rfl⟩,⟨rfl,rfl,rfl,rfl,fun h=>h⟩,⟨rfl,rfl,rfl,rfl,fun h=>h⟩,trivial⟩,rfl,rfl,rfl,rfl⟩) | (refine hnext5 _ (1,_,_) [] (hs.n10 g1 hb) mlt ?_;exact⟨⟨⟨rfl,rfl,fun _=>rfl⟩,⟨rfl,rfl,fun _=>rfl⟩,⟨rfl,rfl,fun _=>rfl⟩,⟨rfl,rfl,fun _=>rfl⟩,⟨rfl,rfl,fun _=>rfl⟩,⟨rfl,rfl,fun _=>rfl⟩,⟨rfl,rfl,fun _=>rfl⟩,⟨rfl,rfl,fun _=>rfl⟩,⟨rfl,rfl,fun _=>rfl⟩,⟨rfl,rfl,fun _=>rfl⟩,⟨rfl,rfl,fun _=>rfl⟩,trivial⟩,⟨⟨rfl,rfl,fun _=>rfl⟩,⟨rfl,rfl,rfl,rfl,fun h=>h⟩,⟨rfl,rfl,rfl,rfl,fun h=>h⟩,trivial⟩,rfl,rfl,rfl,rfl⟩) | (refine hnext5 _ (1,_,_) [] (hs.n01 g1 hb) mlt ?_;exact⟨⟨⟨rfl,rfl,fun _=>rfl⟩,⟨rfl,rfl,fun _=>rfl⟩,⟨rfl,rfl,fun _=>rfl⟩,⟨rfl,rfl,fun _=>rfl⟩,⟨rfl,rfl,fun _=>rfl⟩,⟨rfl,rfl,fun _=>rfl⟩,⟨rfl,rfl,fun _=>rfl⟩,⟨rfl,rfl,fun _=>rfl⟩,⟨rfl,rfl,fun _=>rfl⟩,⟨rfl,rfl,fun _=>rfl⟩,⟨rfl,rfl,fun _=>rfl⟩,trivial⟩,⟨⟨rfl,rfl,fun _=>rfl⟩,⟨rfl,rfl,rfl,rfl,fun h=>h⟩,⟨rfl,rfl,rfl,rfl,fun h=>h⟩,trivial⟩,rfl,rfl,rfl,rfl⟩) | (refine hnext5 _ (1,_,_) [] (hs.n00 g1 hb) mlt ?_;exact⟨⟨⟨rfl,rfl,fun _=>rfl⟩,⟨rfl,rfl,fun _=>rfl⟩,⟨rfl,rfl,fun _=>rfl⟩,⟨rfl,rfl,fun _=>rfl⟩,⟨rfl,rfl,fun _=>rfl⟩,⟨rfl,rfl,fun _=>rfl⟩,⟨rfl,rfl,fun _=>rfl⟩,⟨rfl,rfl,fun _=>rfl⟩,⟨rfl,rfl,fun _=>rfl⟩,⟨rfl,rfl,fun _=>rfl⟩,⟨rfl,rfl,fun _=>rfl⟩,trivial⟩,⟨⟨rfl,rfl,fun _=>rfl⟩,⟨rfl,rfl,rfl,rfl,fun h=>h⟩,⟨rfl,rfl,rfl,rfl,fun h=>h⟩,trivial⟩,rfl,rfl,rfl,rfl⟩)
   ·have hs:=atT hA5 Z.lt hJ5 (by decide) (x:=(gtT A5 T j).2.1) (y:=(gtT A5 T j).2.2) (by subst hA5;rfl) (by subst hA5;rfl)
    have mlt:((3:Int) - 2).toNat < ((3:Int) - 1).toNat:=by decide
    with_reducible refine fA fun kk hn hx=>?_
    cbv
    with_reducible refine hn _ ?_
    clear hn hx kk
    with_reducible refine fA fun k7 hn7 hx7=>?_
    with_reducible refine ZM fun k8 n8 e8 x8 r8=>?_
    with_reducible refine fA fun kk hn hx=>?_
    cbv
    repeat' with_reducible first | (intro hb;cbv) | refine UM ?_ ?_
    all_goals first | (with_reducible refine sV hA5 ?_;first | exact hj.o1 | exact hjb) | exact hj.o1 | exact hjb | skip
    all_goals
     with_reducible refine hn _ ?_
     clear hn hx kk
     have g1:=hb
     clear hb
     cbv
     repeat' with_reducible first | (intro hb;cbv) | refine UM ?_ ?_
     all_goals first | (with_reducible refine sV hA5 ?_;first | exact hj.o1 | exact hjb) | exact hj.o1 | exact hjb | skip
     all_goals
      refine n8 _ ?_
      refine hn7 _ ?_
      clear n8 e8 x8 r8 hn7 hx7
      cbv
      first | (refine hnext5 _ (2,_,_) [] (hs.n11 g1 hb) mlt ?_;exact⟨⟨⟨rfl,rfl,fun _=>rfl⟩,⟨rfl,rfl,fun _=>rfl⟩,⟨rfl,rfl,fun _=>rfl⟩,⟨rfl,rfl,fun _=>rfl⟩,⟨rfl,rfl,fun _=>rfl⟩,⟨rfl,rfl,fun _=>rfl⟩,⟨rfl,rfl,fun _=>rfl⟩,⟨rfl,rfl,fun _=>rfl⟩,⟨rfl,rfl,fun _=>rfl⟩,⟨rfl,rfl,fun _=>rfl⟩,⟨rfl,rfl,fun _=>rfl⟩,trivial⟩,⟨⟨rfl,rfl,fun _=>rfl⟩,⟨rfl,rfl,rfl,rfl,fun h=>h⟩,⟨rfl,rfl,rfl,rfl,fun h=>h⟩,trivial⟩,rfl,rfl,rfl,rfl⟩) | (refine hnext5 _ (2,_,_) [] (hs.n10 g1 hb) mlt ?_;exact⟨⟨⟨rfl,rfl,fun _=>rfl⟩,⟨rfl,rfl,fun _=>rfl⟩,⟨rfl,rfl,fun _=>rfl⟩,⟨rfl,rfl,fun _=>rfl⟩,⟨rfl,rfl,fun _=>rfl⟩,⟨rfl,rfl,fun _=>rfl⟩,⟨rfl,rfl,fun _=>rfl⟩,⟨rfl,rfl,fun _=>rfl⟩,⟨rfl,rfl,fun _=>rfl⟩,⟨rfl,rfl,fun _=>rfl⟩,⟨rfl,rfl,fun _=>rfl⟩,trivial⟩,⟨⟨rfl,rfl,fun _=>rfl⟩,⟨rfl,rfl,rfl,rfl,fun h=>h⟩,⟨rfl,rfl,rfl,rfl,fun h=>h⟩,trivial⟩,rfl,rfl,rfl,rfl⟩) | (refine hnext5 _ (2,_,_) [] (hs.n01 g1 hb) mlt ?_;exact⟨⟨⟨rfl,rfl,fun _=>rfl⟩,⟨rfl,rfl,fun _=>rfl⟩,⟨rfl,rfl,fun _=>rfl⟩,⟨rfl,rfl,fun _=>rfl⟩,⟨rfl,rfl,fun _=>rfl⟩,⟨rfl,rfl,fun _=>rfl⟩,⟨rfl,rfl,fun _=>rfl⟩,⟨rfl,rfl,fun _=>rfl⟩,⟨rfl,rfl,fun _=>rfl⟩,⟨rfl,rfl,fun _=>rfl⟩,⟨rfl,rfl,fun _=>rfl⟩,trivial⟩,⟨⟨rfl,rfl,fun _=>rfl⟩,⟨rfl,rfl,rfl,rfl,fun h=>h⟩,⟨rfl,rfl,rfl,rfl,fun h=>h⟩,trivial⟩,rfl,rfl,rfl,rfl⟩) | (refine hnext5 _ (2,_,_) [] (hs.n00 g1 hb) mlt ?_;exact⟨⟨⟨rfl,rfl,fun _=>rfl⟩,⟨rfl,rfl,fun _=>rfl⟩,⟨rfl,rfl,fun _=>rfl⟩,⟨rfl,rfl,fun _=>rfl⟩,⟨rfl,rfl,fun _=>rfl⟩,⟨rfl,rfl,fun _=>rfl⟩,⟨rfl,rfl,fun _=>rfl⟩,⟨rfl,rfl,fun _=>rfl⟩,⟨rfl,rfl,fun _=>rfl⟩,⟨rfl,rfl,fun _=>rfl⟩,⟨rfl,rfl,fun _=>rfl⟩,trivial⟩,⟨⟨rfl,rfl,fun _=>rfl⟩,⟨rfl,rfl,rfl,rfl,fun h=>h⟩,⟨rfl,rfl,rfl,rfl,fun h=>h⟩,trivial⟩,rfl,rfl,rfl,rfl⟩)
   ·have hs:=atT hA5 Z.lt hJ5 (by decide) (x:=(gtT A5 T j).2.2) (y:=(gtT A5 T j).1) (by subst hA5;rfl) (by subst hA5;rfl)
    have mlt:((3:Int) - 3).toNat < ((3:Int) - 2).toNat:=by decide
    with_reducible refine fA fun kk hn hx=>?_
    cbv
    with_reducible refine hn _ ?_
    clear hn hx kk
    with_reducible refine fA fun k7 hn7 hx7=>?_
    with_reducible refine ZM fun k8 n8 e8 x8 r8=>?_
    with_reducible refine fA fun kk hn hx=>?_
    cbv
    repeat' with_reducible first | (intro hb;cbv) | refine UM ?_ ?_
    all_goals first | (with_reducible refine sV hA5 ?_;first | exact hj.o1 | exact hjb) | exact hj.o1 | exact hjb | skip
    all_goals
     with_reducible refine hn _ ?_
     clear hn hx kk
     have g1:=hb
     clear hb
     cbv
     repeat' with_reducible first | (intro hb;cbv) | refine UM ?_ ?_
     all_goals first | (with_reducible refine sV hA5 ?_;first | exact hj.o1 | exact hjb) | exact hj.o1 | exact hjb | skip
     all_goals
      refine n8 _ ?_
      refine hn7 _ ?_
      clear n8 e8 x8 r8 hn7 hx7
      cbv
      first | (refine hnext5 _ (3,_,_) [] (hs.n11 g1 hb) mlt ?_;exact⟨⟨⟨rfl,rfl,fun _=>rfl⟩,⟨rfl,rfl,fun _=>rfl⟩,⟨rfl,rfl,fun _=>rfl⟩,⟨rfl,rfl,fun _=>rfl⟩,⟨rfl,rfl,fun _=>rfl⟩,⟨rfl,rfl,fun _=>rfl⟩,⟨rfl,rfl,fun _=>rfl⟩,⟨rfl,rfl,fun _=>rfl⟩,⟨rfl,rfl,fun _=>rfl⟩,⟨rfl,rfl,fun _=>rfl⟩,⟨rfl,rfl,fun _=>rfl⟩,trivial⟩,⟨⟨rfl,rfl,fun _=>rfl⟩,⟨rfl,rfl,rfl,rfl,fun h=>h⟩,⟨rfl,rfl,rfl,rfl,fun h=>h⟩,trivial⟩,rfl,rfl,rfl,rfl⟩) | (refine hnext5 _ (3,_,_) [] (hs.n10 g1 hb) mlt ?_;exact⟨⟨⟨rfl,rfl,fun _=>rfl⟩,⟨rfl,rfl,fun _=>rfl⟩,⟨rfl,rfl,fun _=>rfl⟩,⟨rfl,rfl,fun _=>rfl⟩,⟨rfl,rfl,fun _=>rfl⟩,⟨rfl,rfl,fun _=>rfl⟩,⟨rfl,rfl,fun _=>rfl⟩,⟨rfl,rfl,fun _=>rfl⟩,⟨rfl,rfl,fun _=>rfl⟩,⟨rfl,rfl,fun _=>rfl⟩,⟨rfl,rfl,fun _=>rfl⟩,trivial⟩,⟨⟨rfl,rfl,fun _=>rfl⟩,⟨rfl,rfl,rfl,rfl,fun h=>h⟩,⟨rfl,rfl,rfl,rfl,fun h=>h⟩,trivial⟩,rfl,rfl,rfl,rfl⟩) | (refine hnext5 _ (3,_,_) [] (hs.n01 g1 hb) mlt ?_;exact⟨⟨⟨rfl,rfl,fun _=>rfl⟩,⟨rfl,rfl,fun _=>rfl⟩,⟨rfl,rfl,fun _=>rfl⟩,⟨rfl,rfl,fun _=>rfl⟩,⟨rfl,rfl,fun _=>rfl⟩,⟨rfl,rfl,fun _=>rfl⟩,⟨rfl,rfl,fun _=>rfl⟩,⟨rfl,rfl,fun _=>rfl⟩,⟨rfl,rfl,fun _=>rfl⟩,⟨rfl,rfl,fun _=>rfl⟩,⟨rfl,rfl,fun _=>rfl⟩,trivial⟩,⟨⟨rfl,rfl,fun _=>rfl⟩,⟨rfl,rfl,rfl,rfl,fun h=>h⟩,⟨rfl,rfl,rfl,rfl,fun h=>h⟩,trivial⟩,rfl,rfl,rfl,rfl⟩) | (refine hnext5 _ (3,_,_) [] (hs.n00 g1 hb) mlt ?_;exact⟨⟨⟨rfl,rfl,fun _=>rfl⟩,⟨rfl,rfl,fun _=>rfl⟩,⟨rfl,rfl,fun _=>rfl⟩,⟨rfl,rfl,fun _=>rfl⟩,⟨rfl,rfl,fun _=>rfl⟩,⟨rfl,rfl,fun _=>rfl⟩,⟨rfl,rfl,fun _=>rfl⟩,⟨rfl,rfl,fun _=>rfl⟩,⟨rfl,rfl,fun _=>rfl⟩,⟨rfl,rfl,fun _=>rfl⟩,⟨rfl,rfl,fun _=>rfl⟩,trivial⟩,⟨⟨rfl,rfl,fun _=>rfl⟩,⟨rfl,rfl,rfl,rfl,fun h=>h⟩,⟨rfl,rfl,rfl,rfl,fun h=>h⟩,trivial⟩,rfl,rfl,rfl,rfl⟩)
   ·cbv
    repeat' with_reducible first | (intro hb;cbv) | refine UM ?_ ?_
    apply hexit5
    clear hexit5 hnext5 hret5
    cbv
    refine hnext4 _ (j+1,c',d') [] (atS hJ4.j0 hj.lt hJ5) hj.ms ?_
    have ead:=hj.ad
    subst hA5
    exact⟨⟨⟨rfl,rfl,leI ead⟩,⟨rfl,rfl,fun _=>rfl⟩,⟨rfl,rfl,fun _=>rfl⟩,⟨rfl,rfl,fun _=>rfl⟩,⟨rfl,rfl,fun _=>rfl⟩,⟨rfl,rfl,fun _=>rfl⟩,⟨rfl,rfl,fun _=>rfl⟩,⟨rfl,rfl,fun _=>rfl⟩,⟨rfl,rfl,fun _=>rfl⟩,⟨rfl,rfl,fun _=>rfl⟩,trivial⟩,⟨⟨rfl,rfl,fun _=>rfl⟩,⟨rfl,rfl,rfl,rfl,fun h=>h⟩,⟨rfl,rfl,rfl,rfl,fun h=>h⟩,trivial⟩,rfl,rfl,rfl,rfl⟩
  ·cbv
   repeat' with_reducible first | (intro hb;cbv) | refine UM ?_ ?_
   all_goals first | exact hi.o1 | exact hib | skip
   obtain⟨a,ha⟩: ∃ a,(gtT A3 T i).2.1=a:=⟨_,rfl⟩
   obtain⟨b,hb'⟩: ∃ b,(gtT A3 T i).2.2=b:=⟨_,rfl⟩
   have ea:(edK (T.getD i.toNat (0,0,0)) 1).1=a:=by subst hA3;exact ha
   have eb:(edK (T.getD i.toNat (0,0,0)) 1).2=b:=by subst hA3;exact hb'
   refine hL3 _ _ _ (gM (un:=⟨false,some [0,1,4,5,6,7,8,9,10,11,12,13,14,15,16,17,18,19,20,21,23,54,68,73,78,82,105,109,133,157,165]⟩) tok ar1 aL 0 (fun i hi=>by have:=hWr i hi;simp at this) (fun q:Int×Int×Int=>⟨[(20,⟨[], .c (.s (.int .i64 q.1))⟩),(19,⟨[], .c (.s (.int .i64 q.2.2))⟩),(18,⟨[], .c (.s (.int .i64 q.2.1))⟩),(17,⟨[], .c (.s (.int .i64 b))⟩),(16,⟨[], .c (.s (.int .i64 a))⟩),(15,⟨[], .c (.s (.lit .i64 1))⟩),(14,⟨[], .c (.s (.int .i64 i))⟩),(13,⟨[], .c (.s (.int .i64 o2))⟩),(11,⟨[], .c (.s (.hp 7 0))⟩),(4,⟨[], .c (.s (.tt false))⟩)],[(7, .fix true [.s (.hs 5), .s (.hs 6), .s .nils]),(5, .vec true .pt p),(6, .vec true .i3 T)],8⟩)
    (fun q=>J3 T a b q.1 q.2.1 q.2.2) (fun q=>((T.length:Int) - q.1).toNat) (0,0,0) (atO T a b) [] ?_ (fun _=>Nat.zero_le _) ?_)
   ·exact⟨⟨⟨rfl,rfl,fun _=>rfl⟩,⟨rfl,rfl,fun _=>rfl⟩,⟨rfl,rfl,fun _=>rfl⟩,⟨rfl,rfl,leI hb'⟩,⟨rfl,rfl,leI ha⟩,⟨rfl,rfl,fun _=>rfl⟩,⟨rfl,rfl,fun _=>rfl⟩,⟨rfl,rfl,fun _=>rfl⟩,⟨rfl,rfl,fun _=>rfl⟩,⟨rfl,rfl,fun _=>rfl⟩,trivial⟩,⟨⟨rfl,rfl,fun _=>rfl⟩,⟨rfl,rfl,rfl,rfl,fun h=>h⟩,⟨rfl,rfl,rfl,rfl,fun h=>h⟩,trivial⟩,rfl,rfl,rfl,rfl⟩
   clear ha hb'
   rintro⟨j,c,d⟩ hJ4 A4 L4 k4 hA4 hL4 hnext4 hexit4 hret4
   have eA:A4=A3:=hA4.trans hA3.symm
   subst eA
   have hJ4:J3 T a b j c d:=hJ4
   rw[← hA4, ← hH, ← hI, ← hP]
   cbv
   repeat' with_reducible first | (intro hb;cbv) | refine UM ?_ ?_
   rotate_left
   ·have he:=atR hJ4 (at4 hA4 hb)
    have kn:=auF Z.f i0 hi.lt (k:=1) (by decide) (by decide)
    have c1:c=1:=by rw[he.1, ← ea, ← eb];exact kn.1
    have hd:d=aoG (aoL T) (edK (T.getD i.toNat (0,0,0)) 1).2 (edK (T.getD i.toNat (0,0,0)) 1).1:=by rw[he.2, ← ea, ← eb]
    subst c1
    have ho:=auE hA4 Z.lt i0 hi.lt hJ3 (by decide) hd (by rw[hd];exact kn.2.1) (by rw[hd];exact kn.2.2)
    clear he kn hb
    apply hexit4
    clear hexit4 hnext4 hret4
    cbv
    repeat' with_reducible first | (intro hb;cbv) | refine UM ?_ ?_
    ·exact absurd (hb.symm.trans ho.bad) (by decide)
    refine hnext3 _ (2,_) [] ho.nx (by show((3:Int) - 2).toNat < ((3:Int) - 1).toNat;decide) ?_
    exact⟨⟨⟨rfl,rfl,fun _=>rfl⟩,⟨rfl,rfl,fun _=>rfl⟩,⟨rfl,rfl,fun _=>rfl⟩,⟨rfl,rfl,fun _=>rfl⟩,⟨rfl,rfl,fun _=>rfl⟩,trivial⟩,⟨⟨rfl,rfl,fun _=>rfl⟩,⟨rfl,rfl,rfl,rfl,fun h=>h⟩,⟨rfl,rfl,rfl,rfl,fun h=>h⟩,trivial⟩,rfl,rfl,rfl,rfl⟩
   have hj:=at5 hA4 Z.lt hJ4.j0 hb
   have hjb:=hb
   clear hb
   refine hL4 _ _ _ (gM (un:=⟨false,some [0,1,4,5,6,7,8,9,10,11,12,13,14,15,16,17,18,19,20,21,23,54,68,73,78,82,105,109,133,157,165]⟩) tok ar1 aL 0 (fun i hi=>by have:=hWr i hi;simp at this) (fun q:Int×Int×Int=>⟨[(21,⟨[], .c (.s (.lit .i64 q.1))⟩),(20,⟨[], .c (.s (.int .i64 j))⟩),(19,⟨[], .c (.s (.int .i64 q.2.2))⟩),(18,⟨[], .c (.s (.int .i64 q.2.1))⟩),(17,⟨[], .c (.s (.int .i64 b))⟩),(16,⟨[], .c (.s (.int .i64 a))⟩),(15,⟨[], .c (.s (.lit .i64 1))⟩),(14,⟨[], .c (.s (.int .i64 i))⟩),(13,⟨[], .c (.s (.int .i64 o2))⟩),(11,⟨[], .c (.s (.hp 7 0))⟩),(4,⟨[], .c (.s (.tt false))⟩)],[(7, .fix true [.s (.hs 5), .s (.hs 6), .s .nils]),(5, .vec true .pt p),(6, .vec true .i3 T)],8⟩)
    (fun q=>J4 T a b j q.1 q.2.1 q.2.2) (fun q=>(3 - q.1).toNat) (0,c,d) (atP hJ4) [] ?_ (fun _=>Nat.zero_le _) ?_)
   ·exact⟨⟨⟨rfl,rfl,fun _=>rfl⟩,⟨rfl,rfl,fun _=>rfl⟩,⟨rfl,rfl,fun _=>rfl⟩,⟨rfl,rfl,fun _=>rfl⟩,⟨rfl,rfl,fun _=>rfl⟩,⟨rfl,rfl,fun _=>rfl⟩,⟨rfl,rfl,fun _=>rfl⟩,⟨rfl,rfl,fun _=>rfl⟩,⟨rfl,rfl,fun _=>rfl⟩,⟨rfl,rfl,fun _=>rfl⟩,⟨rfl,rfl,fun _=>rfl⟩,trivial⟩,⟨⟨rfl,rfl,fun _=>rfl⟩,⟨rfl,rfl,rfl,rfl,fun h=>h⟩,⟨rfl,rfl,rfl,rfl,fun h=>h⟩,trivial⟩,rfl,rfl,rfl,rfl⟩
   rintro⟨y,c',d'⟩ hJ5 A5 L5 k5 hA5 hL5 hnext5 hexit5 hret5
   have eA:A5=A4:=hA5.trans hA4.symm
   subst eA
   have hJ5:J4 T a b j y c' d':=hJ5
   rw[← hA5, ← hH, ← hI, ← hP]
   rcases h3 hJ5.h0 hJ5.h1 with rfl | rfl | rfl | rfl
   ·have hs:=atT hA5 Z.lt hJ5 (by decide) (x:=(gtT A5 T j).1) (y:=(gtT A5 T j).2.1) (by subst hA5;rfl) (by subst hA5;rfl)
    have mlt:((3:Int) - 1).toNat < ((3:Int) - 0).toNat:=by decide
    with_reducible refine fA fun kk hn hx=>?_
    cbv
    with_reducible refine hn _ ?_
    clear hn hx kk
    with_reducible refine fA fun k7 hn7 hx7=>?_
    with_reducible refine ZM fun k8 n8 e8 x8 r8=>?_
    with_reducible refine fA fun kk hn hx=>?_
    cbv
    repeat' with_reducible first | (intro hb;cbv) | refine UM ?_ ?_
    all_goals first | (with_reducible refine sV hA5 ?_;first | exact hj.o1 | exact hjb) | exact hj.o1 | exact hjb | skip
    all_goals
     with_reducible refine hn _ ?_
     clear hn hx kk
     have g1:=hb
     clear hb
     cbv
     repeat' with_reducible first | (intro hb;cbv) | refine UM ?_ ?_
     all_goals first | (with_reducible refine sV hA5 ?_;first | exact hj.o1 | exact hjb) | exact hj.o1 | exact hjb | skip
     all_goals
      refine n8 _ ?_
      refine hn7 _ ?_
      clear n8 e8 x8 r8 hn7 hx7
      cbv
      first | (refine hnext5 _ (1,_,_) [] (hs.n11 g1 hb) mlt ?_;exact⟨⟨⟨rfl,rfl,fun _=>rfl⟩,⟨rfl,rfl,fun _=>rfl⟩,⟨rfl,rfl,fun _=>rfl⟩,⟨rfl,rfl,fun _=>rfl⟩,⟨rfl,rfl,fun _=>rfl⟩,⟨rfl,rfl,fun _=>rfl⟩,⟨rfl,rfl,fun _=>rfl⟩,⟨rfl,rfl,fun _=>rfl⟩,⟨rfl,rfl,fun _=>rfl⟩,⟨rfl,rfl,fun _=>rfl⟩,⟨rfl,rfl,fun _=>rfl⟩,trivial⟩,⟨⟨rfl,rfl,fun _=>rfl⟩,⟨rfl,rfl,rfl,rfl,fun h=>h⟩,⟨rfl,rfl,rfl,rfl,fun h=>h⟩,trivial⟩,rfl,rfl,rfl,rfl⟩) | (refine hnext5 _ (1,_,_) [] (hs.n10 g1 hb) mlt ?_;exact⟨⟨⟨rfl,rfl,fun _=>rfl⟩,⟨rfl,rfl,fun _=>rfl⟩,⟨rfl,rfl,fun _=>rfl⟩,⟨rfl,rfl,fun _=>rfl⟩,⟨rfl,rfl,fun _=>rfl⟩,⟨rfl,rfl,fun _=>rfl⟩,⟨rfl,rfl,fun _=>rfl⟩,⟨rfl,rfl,fun _=>rfl⟩,⟨rfl,rfl,fun _=>rfl⟩,⟨rfl,rfl,fun _=>rfl⟩,⟨rfl,rfl,fun _=>rfl⟩,trivial⟩,⟨⟨rfl,rfl,fun _=>rfl⟩,⟨rfl,rfl,rfl,rfl,fun h=>h⟩,⟨rfl,rfl,rfl,rfl,fun h=>h⟩,trivial⟩,rfl,rfl,rfl,rfl⟩) | (refine hnext5 _ (1,_,_) [] (hs.n01 g1 hb) mlt ?_;exact⟨⟨⟨rfl,rfl,fun _=>rfl⟩,⟨rfl,rfl,fun _=>rfl⟩,⟨rfl,rfl,fun _=>rfl⟩,⟨rfl,rfl,fun _=>rfl⟩,⟨rfl,rfl,fun _=>rfl⟩,⟨rfl,rfl,fun _=>rfl⟩,⟨rfl,rfl,fun _=>rfl⟩,⟨rfl,rfl,fun _=>rfl⟩,⟨rfl,rfl,fun _=>rfl⟩,⟨rfl,rfl,fun _=>rfl⟩,⟨rfl,rfl,fun _=>rfl⟩,trivial⟩,⟨⟨rfl,rfl,fun _=>rfl⟩,⟨rfl,rfl,rfl,rfl,fun h=>h⟩,⟨rfl,rfl,rfl,rfl,fun h=>h⟩,trivial⟩,rfl,rfl,rfl,rfl⟩) | (refine hnext5 _ (1,_,_) [] (hs.n00 g1 hb) mlt ?_;exact⟨⟨⟨rfl,rfl,fun _=>rfl⟩,⟨rfl,rfl,fun _=>rfl⟩,⟨rfl,rfl,fun _=>rfl⟩,⟨rfl,rfl,fun _=>rfl⟩,⟨rfl,rfl,fun _=>rfl⟩,⟨rfl,rfl,fun _=>rfl⟩,⟨rfl,rfl,fun _=>rfl⟩,⟨rfl,rfl,fun _=>rfl⟩,⟨rfl,rfl,fun _=>rfl⟩,⟨rfl,rfl,fun _=>rfl⟩,⟨rfl,rfl,fun _=>rfl⟩,trivial⟩,⟨⟨rfl,rfl,fun _=>rfl⟩,⟨rfl,rfl,rfl,rfl,fun h=>h⟩,⟨rfl,rfl,rfl,rfl,fun h=>h⟩,trivial⟩,rfl,rfl,rfl,rfl⟩)
   ·have hs:=atT hA5 Z.lt hJ5 (by decide) (x:=(gtT A5 T j).2.1) (y:=(gtT A5 T j).2.2) (by subst hA5;rfl) (by subst hA5;rfl)
    have mlt:((3:Int) - 2).toNat < ((3:Int) - 1).toNat:=by decide
    with_reducible refine fA fun kk hn hx=>?_
    cbv
    with_reducible refine hn _ ?_
    clear hn hx kk
    with_reducible refine fA fun k7 hn7 hx7=>?_
    with_reducible refine ZM fun k8 n8 e8 x8 r8=>?_
    with_reducible refine fA fun kk hn hx=>?_
    cbv
    repeat' with_reducible first | (intro hb;cbv) | refine UM ?_ ?_
    all_goals first | (with_reducible refine sV hA5 ?_;first | exact hj.o1 | exact hjb) | exact hj.o1 | exact hjb | skip
    all_goals
     with_reducible refine hn _ ?_
     clear hn hx kk
     have g1:=hb
     clear hb
     cbv
     repeat' with_reducible first | (intro hb;cbv) | refine UM ?_ ?_
     all_goals first | (with_reducible refine sV hA5 ?_;first | exact hj.o1 | exact hjb) | exact hj.o1 | exact hjb | skip
     all_goals
      refine n8 _ ?_
      refine hn7 _ ?_
      clear n8 e8 x8 r8 hn7 hx7
      cbv
      first | (refine hnext5 _ (2,_,_) [] (hs.n11 g1 hb) mlt ?_;exact⟨⟨⟨rfl,rfl,fun _=>rfl⟩,⟨rfl,rfl,fun _=>rfl⟩,⟨rfl,rfl,fun _=>rfl⟩,⟨rfl,rfl,fun _=>rfl⟩,⟨rfl,rfl,fun _=>rfl⟩,⟨rfl,rfl,fun _=>rfl⟩,⟨rfl,rfl,fun _=>rfl⟩,⟨rfl,rfl,fun _=>rfl⟩,⟨rfl,rfl,fun _=>rfl⟩,⟨rfl,rfl,fun _=>rfl⟩,⟨rfl,rfl,fun _=>rfl⟩,trivial⟩,⟨⟨rfl,rfl,fun _=>rfl⟩,⟨rfl,rfl,rfl,rfl,fun h=>h⟩,⟨rfl,rfl,rfl,rfl,fun h=>h⟩,trivial⟩,rfl,rfl,rfl,rfl⟩) | (refine hnext5 _ (2,_,_) [] (hs.n10 g1 hb) mlt ?_;exact⟨⟨⟨rfl,rfl,fun _=>rfl⟩,⟨rfl,rfl,fun _=>rfl⟩,⟨rfl,rfl,fun _=>rfl⟩,⟨rfl,rfl,fun _=>rfl⟩,⟨rfl,rfl,fun _=>rfl⟩,⟨rfl,rfl,fun _=>rfl⟩,⟨rfl,rfl,fun _=>rfl⟩,⟨rfl,rfl,fun _=>rfl⟩,⟨rfl,rfl,fun _=>rfl⟩,⟨rfl,rfl,fun _=>rfl⟩,⟨rfl,rfl,fun _=>rfl⟩,trivial⟩,⟨⟨rfl,rfl,fun _=>rfl⟩,⟨rfl,rfl,rfl,rfl,fun h=>h⟩,⟨rfl,rfl,rfl,rfl,fun h=>h⟩,trivial⟩,rfl,rfl,rfl,rfl⟩) | (refine hnext5 _ (2,_,_) [] (hs.n01 g1 hb) mlt ?_;exact⟨⟨⟨rfl,rfl,fun _=>rfl⟩,⟨rfl,rfl,fun _=>rfl⟩,⟨rfl,rfl,fun _=>rfl⟩,⟨rfl,rfl,fun _=>rfl⟩,⟨rfl,rfl,fun _=>rfl⟩,⟨rfl,rfl,fun _=>rfl⟩,⟨rfl,rfl,fun _=>rfl⟩,⟨rfl,rfl,fun _=>rfl⟩,⟨rfl,rfl,fun _=>rfl⟩,⟨rfl,rfl,fun _=>rfl⟩,⟨rfl,rfl,fun _=>rfl⟩,trivial⟩,⟨⟨rfl,rfl,fun _=>rfl⟩,⟨rfl,rfl,rfl,rfl,fun h=>h⟩,⟨rfl,rfl,rfl,rfl,fun h=>h⟩,trivial⟩,rfl,rfl,rfl,rfl⟩) | (refine hnext5 _ (2,_,_) [] (hs.n00 g1 hb) mlt ?_;exact⟨⟨⟨rfl,rfl,fun _=>rfl⟩,⟨rfl,rfl,fun _=>rfl⟩,⟨rfl,rfl,fun _=>rfl⟩,⟨rfl,rfl,fun _=>rfl⟩,⟨rfl,rfl,fun _=>rfl⟩,⟨rfl,rfl,fun _=>rfl⟩,⟨rfl,rfl,fun _=>rfl⟩,⟨rfl,rfl,fun _=>rfl⟩,⟨rfl,rfl,fun _=>rfl⟩,⟨rfl,rfl,fun _=>rfl⟩,⟨rfl,rfl,fun _=>rfl⟩,trivial⟩,⟨⟨rfl,rfl,fun _=>rfl⟩,⟨rfl,rfl,rfl,rfl,fun h=>h⟩,⟨rfl,rfl,rfl,rfl,fun h=>h⟩,trivial⟩,rfl,rfl,rfl,rfl⟩)
   ·have hs:=atT hA5 Z.lt hJ5 (by decide) (x:=(gtT A5 T j).2.2) (y:=(gtT A5 T j).1) (by subst hA5;rfl) (by subst hA5;rfl)
    have mlt:((3:Int) - 3).toNat < ((3:Int) - 2).toNat:=by decide
    with_reducible refine fA fun kk hn hx=>?_
    cbv
    with_reducible refine hn _ ?_
    clear hn hx kk
    with_reducible refine fA fun k7 hn7 hx7=>?_
    with_reducible refine ZM fun k8 n8 e8 x8 r8=>?_
    with_reducible refine fA fun kk hn hx=>?_
    cbv
    repeat' with_reducible first | (intro hb;cbv) | refine UM ?_ ?_
    all_goals first | (with_reducible refine sV hA5 ?_;first | exact hj.o1 | exact hjb) | exact hj.o1 | exact hjb | skip
    all_goals
     with_reducible refine hn _ ?_
     clear hn hx kk
     have g1:=hb
     clear hb
     cbv
     repeat' with_reducible first | (intro hb;cbv) | refine UM ?_ ?_
     all_goals first | (with_reducible refine sV hA5 ?_;first | exact hj.o1 | exact hjb) | exact hj.o1 | exact hjb | skip
     all_goals
      refine n8 _ ?_
      refine hn7 _ ?_
      clear n8 e8 x8 r8 hn7 hx7
      cbv
      first | (refine hnext5 _ (3,_,_) [] (hs.n11 g1 hb) mlt ?_;exact⟨⟨⟨rfl,rfl,fun _=>rfl⟩,⟨rfl,rfl,fun _=>rfl⟩,⟨rfl,rfl,fun _=>rfl⟩,⟨rfl,rfl,fun _=>rfl⟩,⟨rfl,rfl,fun _=>rfl⟩,⟨rfl,rfl,fun _=>rfl⟩,⟨rfl,rfl,fun _=>rfl⟩,⟨rfl,rfl,fun _=>rfl⟩,⟨rfl,rfl,fun _=>rfl⟩,⟨rfl,rfl,fun _=>rfl⟩,⟨rfl,rfl,fun _=>rfl⟩,trivial⟩,⟨⟨rfl,rfl,fun _=>rfl⟩,⟨rfl,rfl,rfl,rfl,fun h=>h⟩,⟨rfl,rfl,rfl,rfl,fun h=>h⟩,trivial⟩,rfl,rfl,rfl,rfl⟩) | (refine hnext5 _ (3,_,_) [] (hs.n10 g1 hb) mlt ?_;exact⟨⟨⟨rfl,rfl,fun _=>rfl⟩,⟨rfl,rfl,fun _=>rfl⟩,⟨rfl,rfl,fun _=>rfl⟩,⟨rfl,rfl,fun _=>rfl⟩,⟨rfl,rfl,fun _=>rfl⟩,⟨rfl,rfl,fun _=>rfl⟩,⟨rfl,rfl,fun _=>rfl⟩,⟨rfl,rfl,fun _=>rfl⟩,⟨rfl,rfl,fun _=>rfl⟩,⟨rfl,rfl,fun _=>rfl⟩,⟨rfl,rfl,fun _=>rfl⟩,trivial⟩,⟨⟨rfl,rfl,fun _=>rfl⟩,⟨rfl,rfl,rfl,rfl,fun h=>h⟩,⟨rfl,rfl,rfl,rfl,fun h=>h⟩,trivial⟩,rfl,rfl,rfl,rfl⟩) | (refine hnext5 _ (3,_,_) [] (hs.n01 g1 hb) mlt ?_;exact⟨⟨⟨rfl,rfl,fun _=>rfl⟩,⟨rfl,rfl,fun _=>rfl⟩,⟨rfl,rfl,fun _=>rfl⟩,⟨rfl,rfl,fun _=>rfl⟩,⟨rfl,rfl,fun _=>rfl⟩,⟨rfl,rfl,fun _=>rfl⟩,⟨rfl,rfl,fun _=>rfl⟩,⟨rfl,rfl,fun _=>rfl⟩,⟨rfl,rfl,fun _=>rfl⟩,⟨rfl,rfl,fun _=>rfl⟩,⟨rfl,rfl,fun _=>rfl⟩,trivial⟩,⟨⟨rfl,rfl,fun _=>rfl⟩,⟨rfl,rfl,rfl,rfl,fun h=>h⟩,⟨rfl,rfl,rfl,rfl,fun h=>h⟩,trivial⟩,rfl,rfl,rfl,rfl⟩) | (refine hnext5 _ (3,_,_) [] (hs.n00 g1 hb) mlt ?_;exact⟨⟨⟨rfl,rfl,fun _=>rfl⟩,⟨rfl,rfl,fun _=>rfl⟩,⟨rfl,rfl,fun _=>rfl⟩,⟨rfl,rfl,fun _=>rfl⟩,⟨rfl,rfl,fun _=>rfl⟩,⟨rfl,rfl,fun _=>rfl⟩,⟨rfl,rfl,fun _=>rfl⟩,⟨rfl,rfl,fun _=>rfl⟩,⟨rfl,rfl,fun _=>rfl⟩,⟨rfl,rfl,fun _=>rfl⟩,⟨rfl,rfl,fun _=>rfl⟩,trivial⟩,⟨⟨rfl,rfl,fun _=>rfl⟩,⟨rfl,rfl,rfl,rfl,fun h=>h⟩,⟨rfl,rfl,rfl,rfl,fun h=>h⟩,trivial⟩,rfl,rfl,rfl,rfl⟩)
   ·cbv
    repeat' with_reducible first | (intro hb;cbv) | refine UM ?_ ?_
    apply hexit5
    clear hexit5 hnext5 hret5
    cbv
    refine hnext4 _ (j+1,c',d') [] (atS hJ4.j0 hj.lt hJ5) hj.ms ?_
    have ead:=hj.ad
    subst hA5
    exact⟨⟨⟨rfl,rfl,leI ead⟩,⟨rfl,rfl,fun _=>rfl⟩,⟨rfl,rfl,fun _=>rfl⟩,⟨rfl,rfl,fun _=>rfl⟩,⟨rfl,rfl,fun _=>rfl⟩,⟨rfl,rfl,fun _=>rfl⟩,⟨rfl,rfl,fun _=>rfl⟩,⟨rfl,rfl,fun _=>rfl⟩,⟨rfl,rfl,fun _=>rfl⟩,⟨rfl,rfl,fun _=>rfl⟩,trivial⟩,⟨⟨rfl,rfl,fun _=>rfl⟩,⟨rfl,rfl,rfl,rfl,fun h=>h⟩,⟨rfl,rfl,rfl,rfl,fun h=>h⟩,trivial⟩,rfl,rfl,rfl,rfl⟩
  ·cbv
   repeat' with_reducible first | (intro hb;cbv) | refine UM ?_ ?_
   all_goals first | exact hi.o1 | exact hib | skip
   obtain⟨a,ha⟩: ∃ a,(gtT A3 T i).2.2=a:=⟨_,rfl⟩
   obtain⟨b,hb'⟩: ∃ b,(gtT A3 T i).1=b:=⟨_,rfl⟩
   have ea:(edK (T.getD i.toNat (0,0,0)) 2).1=a:=by subst hA3;exact ha
   have eb:(edK (T.getD i.toNat (0,0,0)) 2).2=b:=by subst hA3;exact hb'
   refine hL3 _ _ _ (gM (un:=⟨false,some [0,1,4,5,6,7,8,9,10,11,12,13,14,15,16,17,18,19,20,21,23,54,68,73,78,82,105,109,133,157,165]⟩) tok ar1 aL 0 (fun i hi=>by have:=hWr i hi;simp at this) (fun q:Int×Int×Int=>⟨[(20,⟨[], .c (.s (.int .i64 q.1))⟩),(19,⟨[], .c (.s (.int .i64 q.2.2))⟩),(18,⟨[], .c (.s (.int .i64 q.2.1))⟩),(17,⟨[], .c (.s (.int .i64 b))⟩),(16,⟨[], .c (.s (.int .i64 a))⟩),(15,⟨[], .c (.s (.lit .i64 2))⟩),(14,⟨[], .c (.s (.int .i64 i))⟩),(13,⟨[], .c (.s (.int .i64 o2))⟩),(11,⟨[], .c (.s (.hp 7 0))⟩),(4,⟨[], .c (.s (.tt false))⟩)],[(7, .fix true [.s (.hs 5), .s (.hs 6), .s .nils]),(5, .vec true .pt p),(6, .vec true .i3 T)],8⟩)
    (fun q=>J3 T a b q.1 q.2.1 q.2.2) (fun q=>((T.length:Int) - q.1).toNat) (0,0,0) (atO T a b) [] ?_ (fun _=>Nat.zero_le _) ?_)
   ·exact⟨⟨⟨rfl,rfl,fun _=>rfl⟩,⟨rfl,rfl,fun _=>rfl⟩,⟨rfl,rfl,fun _=>rfl⟩,⟨rfl,rfl,leI hb'⟩,⟨rfl,rfl,leI ha⟩,⟨rfl,rfl,fun _=>rfl⟩,⟨rfl,rfl,fun _=>rfl⟩,⟨rfl,rfl,fun _=>rfl⟩,⟨rfl,rfl,fun _=>rfl⟩,⟨rfl,rfl,fun _=>rfl⟩,trivial⟩,⟨⟨rfl,rfl,fun _=>rfl⟩,⟨rfl,rfl,rfl,rfl,fun h=>h⟩,⟨rfl,rfl,rfl,rfl,fun h=>h⟩,trivial⟩,rfl,rfl,rfl,rfl⟩
   clear ha hb'
   rintro⟨j,c,d⟩ hJ4 A4 L4 k4 hA4 hL4 hnext4 hexit4 hret4
   have eA:A4=A3:=hA4.trans hA3.symm
   subst eA
   have hJ4:J3 T a b j c d:=hJ4
   rw[← hA4, ← hH, ← hI, ← hP]
   cbv
   repeat' with_reducible first | (intro hb;cbv) | refine UM ?_ ?_
   rotate_left
   ·have he:=atR hJ4 (at4 hA4 hb)
    have kn:=auF Z.f i0 hi.lt (k:=2) (by decide) (by decide)
    have c1:c=1:=by rw[he.1, ← ea, ← eb];exact kn.1
    have hd:d=aoG (aoL T) (edK (T.getD i.toNat (0,0,0)) 2).2 (edK (T.getD i.toNat (0,0,0)) 2).1:=by rw[he.2, ← ea, ← eb]
    subst c1
    have ho:=auE hA4 Z.lt i0 hi.lt hJ3 (by decide) hd (by rw[hd];exact kn.2.1) (by rw[hd];exact kn.2.2)
    clear he kn hb
    apply hexit4
    clear hexit4 hnext4 hret4
    cbv
    repeat' with_reducible first | (intro hb;cbv) | refine UM ?_ ?_
    ·exact absurd (hb.symm.trans ho.bad) (by decide)
    refine hnext3 _ (3,_) [] ho.nx (by show((3:Int) - 3).toNat < ((3:Int) - 2).toNat;decide) ?_
    exact⟨⟨⟨rfl,rfl,fun _=>rfl⟩,⟨rfl,rfl,fun _=>rfl⟩,⟨rfl,rfl,fun _=>rfl⟩,⟨rfl,rfl,fun _=>rfl⟩,⟨rfl,rfl,fun _=>rfl⟩,trivial⟩,⟨⟨rfl,rfl,fun _=>rfl⟩,⟨rfl,rfl,rfl,rfl,fun h=>h⟩,⟨rfl,rfl,rfl,rfl,fun h=>h⟩,trivial⟩,rfl,rfl,rfl,rfl⟩
   have hj:=at5 hA4 Z.lt hJ4.j0 hb
   have hjb:=hb
   clear hb
   refine hL4 _ _ _ (gM (un:=⟨false,some [0,1,4,5,6,7,8,9,10,11,12,13,14,15,16,17,18,19,20,21,23,54,68,73,78,82,105,109,133,157,165]⟩) tok ar1 aL 0 (fun i hi=>by have:=hWr i hi;simp at this) (fun q:Int×Int×Int=>⟨[(21,⟨[], .c (.s (.lit .i64 q.1))⟩),(20,⟨[], .c (.s (.int .i64 j))⟩),(19,⟨[], .c (.s (.int .i64 q.2.2))⟩),(18,⟨[], .c (.s (.int .i64 q.2.1))⟩),(17,⟨[], .c (.s (.int .i64 b))⟩),(16,⟨[], .c (.s (.int .i64 a))⟩),(15,⟨[], .c (.s (.lit .i64 2))⟩),(14,⟨[], .c (.s (.int .i64 i))⟩),(13,⟨[], .c (.s (.int .i64 o2))⟩),(11,⟨[], .c (.s (.hp 7 0))⟩),(4,⟨[], .c (.s (.tt false))⟩)],[(7, .fix true [.s (.hs 5), .s (.hs 6), .s .nils]),(5, .vec true .pt p),(6, .vec true .i3 T)],8⟩)
    (fun q=>J4 T a b j q.1 q.2.1 q.2.2) (fun q=>(3 - q.1).toNat) (0,c,d) (atP hJ4) [] ?_ (fun _=>Nat.zero_le _) ?_)
   ·exact⟨⟨⟨rfl,rfl,fun _=>rfl⟩,⟨rfl,rfl,fun _=>rfl⟩,⟨rfl,rfl,fun _=>rfl⟩,⟨rfl,rfl,fun _=>rfl⟩,⟨rfl,rfl,fun _=>rfl⟩,⟨rfl,rfl,fun _=>rfl⟩,⟨rfl,rfl,fun _=>rfl⟩,⟨rfl,rfl,fun _=>rfl⟩,⟨rfl,rfl,fun _=>rfl⟩,⟨rfl,rfl,fun _=>rfl⟩,⟨rfl,rfl,fun _=>rfl⟩,trivial⟩,⟨⟨rfl,rfl,fun _=>rfl⟩,⟨rfl,rfl,rfl,rfl,fun h=>h⟩,⟨rfl,rfl,rfl,rfl,fun h=>h⟩,trivial⟩,rfl,rfl,rfl,rfl⟩
   rintro⟨y,c',d'⟩ hJ5 A5 L5 k5 hA5 hL5 hnext5 hexit5 hret5
   have eA:A5=A4:=hA5.trans hA4.symm
   subst eA
   have hJ5:J4 T a b j y c' d':=hJ5
   rw[← hA5, ← hH, ← hI, ← hP]
   rcases h3 hJ5.h0 hJ5.h1 with rfl | rfl | rfl | rfl
   ·have hs:=atT hA5 Z.lt hJ5 (by decide) (x:=(gtT A5 T j).1) (y:=(gtT A5 T j).2.1) (by subst hA5;rfl) (by subst hA5;rfl)
    have mlt:((3:Int) - 1).toNat < ((3:Int) - 0).toNat:=by decide
    with_reducible refine fA fun kk hn hx=>?_
    cbv
    with_reducible refine hn _ ?_
    clear hn hx kk
    with_reducible refine fA fun k7 hn7 hx7=>?_
    with_reducible refine ZM fun k8 n8 e8 x8 r8=>?_
    with_reducible refine fA fun kk hn hx=>?_
    cbv
    repeat' with_reducible first | (intro hb;cbv) | refine UM ?_ ?_
    all_goals first | (with_reducible refine sV hA5 ?_;first | exact hj.o1 | exact hjb) | exact hj.o1 | exact hjb | skip
    all_goals
     with_reducible refine hn _ ?_
     clear hn hx kk
     have g1:=hb
     clear hb
     cbv
     repeat' with_reducible first | (intro hb;cbv) | refine UM ?_ ?_
     all_goals first | (with_reducible refine sV hA5 ?_;first | exact hj.o1 | exact hjb) | exact hj.o1 | exact hjb | skip
     all_goals
      refine n8 _ ?_
      refine hn7 _ ?_
      clear n8 e8 x8 r8 hn7 hx7
      cbv
      first | (refine hnext5 _ (1,_,_) [] (hs.n11 g1 hb) mlt ?_;exact⟨⟨⟨rfl,rfl,fun _=>rfl⟩,⟨rfl,rfl,fun _=>rfl⟩,⟨rfl,rfl,fun _=>rfl⟩,⟨rfl,rfl,fun _=>rfl⟩,⟨rfl,rfl,fun _=>rfl⟩,⟨rfl,rfl,fun _=>rfl⟩,⟨rfl,rfl,fun _=>rfl⟩,⟨rfl,rfl,fun _=>rfl⟩,⟨rfl,rfl,fun _=>rfl⟩,⟨rfl,rfl,fun _=>rfl⟩,⟨rfl,rfl,fun _=>rfl⟩,trivial⟩,⟨⟨rfl,rfl,fun _=>rfl⟩,⟨rfl,rfl,rfl,rfl,fun h=>h⟩,⟨rfl,rfl,rfl,rfl,fun h=>h⟩,trivial⟩,rfl,rfl,rfl,rfl⟩) | (refine hnext5 _ (1,_,_) [] (hs.n10 g1 hb) mlt ?_;exact⟨⟨⟨rfl,rfl,fun _=>rfl⟩,⟨rfl,rfl,fun _=>rfl⟩,⟨rfl,rfl,fun _=>rfl⟩,⟨rfl,rfl,fun _=>rfl⟩,⟨rfl,rfl,fun _=>rfl⟩,⟨rfl,rfl,fun _=>rfl⟩,⟨rfl,rfl,fun _=>rfl⟩,⟨rfl,rfl,fun _=>rfl⟩,⟨rfl,rfl,fun _=>rfl⟩,⟨rfl,rfl,fun _=>rfl⟩,⟨rfl,rfl,fun _=>rfl⟩,trivial⟩,⟨⟨rfl,rfl,fun _=>rfl⟩,⟨rfl,rfl,rfl,rfl,fun h=>h⟩,⟨rfl,rfl,rfl,rfl,fun h=>h⟩,trivial⟩,rfl,rfl,rfl,rfl⟩) | (refine hnext5 _ (1,_,_) [] (hs.n01 g1 hb) mlt ?_;exact⟨⟨⟨rfl,rfl,fun _=>rfl⟩,⟨rfl,rfl,fun _=>rfl⟩,⟨rfl,rfl,fun _=>rfl⟩,⟨rfl,rfl,fun _=>rfl⟩,⟨rfl,rfl,fun _=>rfl⟩,⟨rfl,rfl,fun _=>rfl⟩,⟨rfl,rfl,fun _=>rfl⟩,⟨rfl,rfl,fun _=>rfl⟩,⟨rfl,rfl,fun _=>rfl⟩,⟨rfl,rfl,fun _=>rfl⟩,⟨rfl,rfl,fun _=>rfl⟩,trivial⟩,⟨⟨rfl,rfl,fun _=>rfl⟩,⟨rfl,rfl,rfl,rfl,fun h=>h⟩,⟨rfl,rfl,rfl,rfl,fun h=>h⟩,trivial⟩,rfl,rfl,rfl,rfl⟩) | (refine hnext5 _ (1,_,_) [] (hs.n00 g1 hb) mlt ?_;exact⟨⟨⟨rfl,rfl,fun _=>rfl⟩,⟨rfl,rfl,fun _=>rfl⟩,⟨rfl,rfl,fun _=>rfl⟩,⟨rfl,rfl,fun _=>rfl⟩,⟨rfl,rfl,fun _=>rfl⟩,⟨rfl,rfl,fun _=>rfl⟩,⟨rfl,rfl,fun _=>rfl⟩,⟨rfl,rfl,fun _=>rfl⟩,⟨rfl,rfl,fun _=>rfl⟩,⟨rfl,rfl,fun _=>rfl⟩,⟨rfl,rfl,fun _=>rfl⟩,trivial⟩,⟨⟨rfl,rfl,fun _=>rfl⟩,⟨rfl,rfl,rfl,rfl,fun h=>h⟩,⟨rfl,rfl,rfl,rfl,fun h=>h⟩,trivial⟩,rfl,rfl,rfl,rfl⟩)
   ·have hs:=atT hA5 Z.lt hJ5 (by decide) (x:=(gtT A5 T j).2.1) (y:=(gtT A5 T j).2.2) (by subst hA5;rfl) (by subst hA5;rfl)
    have mlt:((3:Int) - 2).toNat < ((3:Int) - 1).toNat:=by decide
    with_reducible refine fA fun kk hn hx=>?_
    cbv
    with_reducible refine hn _ ?_
    clear hn hx kk
    with_reducible refine fA fun k7 hn7 hx7=>?_
    with_reducible refine ZM fun k8 n8 e8 x8 r8=>?_
    with_reducible refine fA fun kk hn hx=>?_
    cbv
    repeat' with_reducible first | (intro hb;cbv) | refine UM ?_ ?_
    all_goals first | (with_reducible refine sV hA5 ?_;first | exact hj.o1 | exact hjb) | exact hj.o1 | exact hjb | skip
    all_goals
     with_reducible refine hn _ ?_
     clear hn hx kk
     have g1:=hb
     clear hb
     cbv
     repeat' with_reducible first | (intro hb;cbv) | refine UM ?_ ?_
     all_goals first | (with_reducible refine sV hA5 ?_;first | exact hj.o1 | exact hjb) | exact hj.o1 | exact hjb | skip
     all_goals
      refine n8 _ ?_
      refine hn7 _ ?_
      clear n8 e8 x8 r8 hn7 hx7
      cbv
      first | (refine hnext5 _ (2,_,_) [] (hs.n11 g1 hb) mlt ?_;exact⟨⟨⟨rfl,rfl,fun _=>rfl⟩,⟨rfl,rfl,fun _=>rfl⟩,⟨rfl,rfl,fun _=>rfl⟩,⟨rfl,rfl,fun _=>rfl⟩,⟨rfl,rfl,fun _=>rfl⟩,⟨rfl,rfl,fun _=>rfl⟩,⟨rfl,rfl,fun _=>rfl⟩,⟨rfl,rfl,fun _=>rfl⟩,⟨rfl,rfl,fun _=>rfl⟩,⟨rfl,rfl,fun _=>rfl⟩,⟨rfl,rfl,fun _=>rfl⟩,trivial⟩,⟨⟨rfl,rfl,fun _=>rfl⟩,⟨rfl,rfl,rfl,rfl,fun h=>h⟩,⟨rfl,rfl,rfl,rfl,fun h=>h⟩,trivial⟩,rfl,rfl,rfl,rfl⟩) | (refine hnext5 _ (2,_,_) [] (hs.n10 g1 hb) mlt ?_;exact⟨⟨⟨rfl,rfl,fun _=>rfl⟩,⟨rfl,rfl,fun _=>rfl⟩,⟨rfl,rfl,fun _=>rfl⟩,⟨rfl,rfl,fun _=>rfl⟩,⟨rfl,rfl,fun _=>rfl⟩,⟨rfl,rfl,fun _=>rfl⟩,⟨rfl,rfl,fun _=>rfl⟩,⟨rfl,rfl,fun _=>rfl⟩,⟨rfl,rfl,fun _=>rfl⟩,⟨rfl,rfl,fun _=>rfl⟩,⟨rfl,rfl,fun _=>rfl⟩,trivial⟩,⟨⟨rfl,rfl,fun _=>rfl⟩,⟨rfl,rfl,rfl,rfl,fun h=>h⟩,⟨rfl,rfl,rfl,rfl,fun h=>h⟩,trivial⟩,rfl,rfl,rfl,rfl⟩) | (refine hnext5 _ (2,_,_) [] (hs.n01 g1 hb) mlt ?_;exact⟨⟨⟨rfl,rfl,fun _=>rfl⟩,⟨rfl,rfl,fun _=>rfl⟩,⟨rfl,rfl,fun _=>rfl⟩,⟨rfl,rfl,fun _=>rfl⟩,⟨rfl,rfl,fun _=>rfl⟩,⟨rfl,rfl,fun _=>rfl⟩,⟨rfl,rfl,fun _=>rfl⟩,⟨rfl,rfl,fun _=>rfl⟩,⟨rfl,rfl,fun _=>rfl⟩,⟨rfl,rfl,fun _=>rfl⟩,⟨rfl,rfl,fun _=>rfl⟩,trivial⟩,⟨⟨rfl,rfl,fun _=>rfl⟩,⟨rfl,rfl,rfl,rfl,fun h=>h⟩,⟨rfl,rfl,rfl,rfl,fun h=>h⟩,trivial⟩,rfl,rfl,rfl,rfl⟩) | (refine hnext5 _ (2,_,_) [] (hs.n00 g1 hb) mlt ?_;exact⟨⟨⟨rfl,rfl,fun _=>rfl⟩,⟨rfl,rfl,fun _=>rfl⟩,⟨rfl,rfl,fun _=>rfl⟩,⟨rfl,rfl,fun _=>rfl⟩,⟨rfl,rfl,fun _=>rfl⟩,⟨rfl,rfl,fun _=>rfl⟩,⟨rfl,rfl,fun _=>rfl⟩,⟨rfl,rfl,fun _=>rfl⟩,⟨rfl,rfl,fun _=>rfl⟩,⟨rfl,rfl,fun _=>rfl⟩,⟨rfl,rfl,fun _=>rfl⟩,trivial⟩,⟨⟨rfl,rfl,fun _=>rfl⟩,⟨rfl,rfl,rfl,rfl,fun h=>h⟩,⟨rfl,rfl,rfl,rfl,fun h=>h⟩,trivial⟩,rfl,rfl,rfl,rfl⟩)
   ·have hs:=atT hA5 Z.lt hJ5 (by decide) (x:=(gtT A5 T j).2.2) (y:=(gtT A5 T j).1) (by subst hA5;rfl) (by subst hA5;rfl)
    have mlt:((3:Int) - 3).toNat < ((3:Int) - 2).toNat:=by decide
    with_reducible refine fA fun kk hn hx=>?_
    cbv
    with_reducible refine hn _ ?_
    clear hn hx kk
    with_reducible refine fA fun k7 hn7 hx7=>?_
    with_reducible refine ZM fun k8 n8 e8 x8 r8=>?_
    with_reducible refine fA fun kk hn hx=>?_
    cbv
    repeat' with_reducible first | (intro hb;cbv) | refine UM ?_ ?_
    all_goals first | (with_reducible refine sV hA5 ?_;first | exact hj.o1 | exact hjb) | exact hj.o1 | exact hjb | skip
    all_goals
     with_reducible refine hn _ ?_
     clear hn hx kk
     have g1:=hb
     clear hb
     cbv
     repeat' with_reducible first | (intro hb;cbv) | refine UM ?_ ?_
     all_goals first | (with_reducible refine sV hA5 ?_;first | exact hj.o1 | exact hjb) | exact hj.o1 | exact hjb | skip
     all_goals
      refine n8 _ ?_
      refine hn7 _ ?_
      clear n8 e8 x8 r8 hn7 hx7
      cbv
      first | (refine hnext5 _ (3,_,_) [] (hs.n11 g1 hb) mlt ?_;exact⟨⟨⟨rfl,rfl,fun _=>rfl⟩,⟨rfl,rfl,fun _=>rfl⟩,⟨rfl,rfl,fun _=>rfl⟩,⟨rfl,rfl,fun _=>rfl⟩,⟨rfl,rfl,fun _=>rfl⟩,⟨rfl,rfl,fun _=>rfl⟩,⟨rfl,rfl,fun _=>rfl⟩,⟨rfl,rfl,fun _=>rfl⟩,⟨rfl,rfl,fun _=>rfl⟩,⟨rfl,rfl,fun _=>rfl⟩,⟨rfl,rfl,fun _=>rfl⟩,trivial⟩,⟨⟨rfl,rfl,fun _=>rfl⟩,⟨rfl,rfl,rfl,rfl,fun h=>h⟩,⟨rfl,rfl,rfl,rfl,fun h=>h⟩,trivial⟩,rfl,rfl,rfl,rfl⟩) | (refine hnext5 _ (3,_,_) [] (hs.n10 g1 hb) mlt ?_;exact⟨⟨⟨rfl,rfl,fun _=>rfl⟩,⟨rfl,rfl,fun _=>rfl⟩,⟨rfl,rfl,fun _=>rfl⟩,⟨rfl,rfl,fun _=>rfl⟩,⟨rfl,rfl,fun _=>rfl⟩,⟨rfl,rfl,fun _=>rfl⟩,⟨rfl,rfl,fun _=>rfl⟩,⟨rfl,rfl,fun _=>rfl⟩,⟨rfl,rfl,fun _=>rfl⟩,⟨rfl,rfl,fun _=>rfl⟩,⟨rfl,rfl,fun _=>rfl⟩,trivial⟩,⟨⟨rfl,rfl,fun _=>rfl⟩,⟨rfl,rfl,rfl,rfl,fun h=>h⟩,⟨rfl,rfl,rfl,rfl,fun h=>h⟩,trivial⟩,rfl,rfl,rfl,rfl⟩) | (refine hnext5 _ (3,_,_) [] (hs.n01 g1 hb) mlt ?_;exact⟨⟨⟨rfl,rfl,fun _=>rfl⟩,⟨rfl,rfl,fun _=>rfl⟩,⟨rfl,rfl,fun _=>rfl⟩,⟨rfl,rfl,fun _=>rfl⟩,⟨rfl,rfl,fun _=>rfl⟩,⟨rfl,rfl,fun _=>rfl⟩,⟨rfl,rfl,fun _=>rfl⟩,⟨rfl,rfl,fun _=>rfl⟩,⟨rfl,rfl,fun _=>rfl⟩,⟨rfl,rfl,fun _=>rfl⟩,⟨rfl,rfl,fun _=>rfl⟩,trivial⟩,⟨⟨rfl,rfl,fun _=>rfl⟩,⟨rfl,rfl,rfl,rfl,fun h=>h⟩,⟨rfl,rfl,rfl,rfl,fun h=>h⟩,trivial⟩,rfl,rfl,rfl,rfl⟩) | (refine hnext5 _ (3,_,_) [] (hs.n00 g1 hb) mlt ?_;exact⟨⟨⟨rfl,rfl,fun _=>rfl⟩,⟨rfl,rfl,fun _=>rfl⟩,⟨rfl,rfl,fun _=>rfl⟩,⟨rfl,rfl,fun _=>rfl⟩,⟨rfl,rfl,fun _=>rfl⟩,⟨rfl,rfl,fun _=>rfl⟩,⟨rfl,rfl,fun _=>rfl⟩,⟨rfl,rfl,fun _=>rfl⟩,⟨rfl,rfl,fun _=>rfl⟩,⟨rfl,rfl,fun _=>rfl⟩,⟨rfl,rfl,fun _=>rfl⟩,trivial⟩,⟨⟨rfl,rfl,fun _=>rfl⟩,⟨rfl,rfl,rfl,rfl,fun h=>h⟩,⟨rfl,rfl,rfl,rfl,fun h=>h⟩,trivial⟩,rfl,rfl,rfl,rfl⟩)
   ·cbv
    repeat' with_reducible first | (intro hb;cbv) | refine UM ?_ ?_
    apply hexit5
    clear hexit5 hnext5 hret5
    cbv
    refine hnext4 _ (j+1,c',d') [] (atS hJ4.j0 hj.lt hJ5) hj.ms ?_
    have ead:=hj.ad
    subst hA5
    exact⟨⟨⟨rfl,rfl,leI ead⟩,⟨rfl,rfl,fun _=>rfl⟩,⟨rfl,rfl,fun _=>rfl⟩,⟨rfl,rfl,fun _=>rfl⟩,⟨rfl,rfl,fun _=>rfl⟩,⟨rfl,rfl,fun _=>rfl⟩,⟨rfl,rfl,fun _=>rfl⟩,⟨rfl,rfl,fun _=>rfl⟩,⟨rfl,rfl,fun _=>rfl⟩,⟨rfl,rfl,fun _=>rfl⟩,trivial⟩,⟨⟨rfl,rfl,fun _=>rfl⟩,⟨rfl,rfl,rfl,rfl,fun h=>h⟩,⟨rfl,rfl,rfl,rfl,fun h=>h⟩,trivial⟩,rfl,rfl,rfl,rfl⟩
  ·cbv
   repeat' with_reducible first | (intro hb;cbv) | refine UM ?_ ?_
   apply hexit3
   clear hexit3 hnext3 hret3
   cbv
   refine hnext _ (i+1,o2) [] (at7 i0 hi.lt hJ3) hi.ms ?_
   have ead:=hi.ad
   subst hA3
   exact⟨⟨⟨rfl,rfl,leI ead⟩,⟨rfl,rfl,fun _=>rfl⟩,⟨rfl,rfl,fun _=>rfl⟩,⟨rfl,rfl,fun _=>rfl⟩,trivial⟩,⟨⟨rfl,rfl,fun _=>rfl⟩,⟨rfl,rfl,rfl,rfl,fun h=>h⟩,⟨rfl,rfl,rfl,rfl,fun h=>h⟩,trivial⟩,rfl,rfl,rfl,rfl⟩
 ·cbv
  repeat' with_reducible first | (intro hb;cbv) | refine UM ?_ ?_
  all_goals first | contradiction | exact B.b1 | exact B.b2 | exact B.b3 | exact B.b4 | exact B.b5 | exact B.b6 | exact B.b7 | exact B.b8 | (clear hk hL;subst hp hT;exact Z.o1) | (clear hk hL;subst hp hT;exact Z.o2) | (clear hk hL;subst hp hT;exact Z.o3) | (clear hk hL;subst hp hT;exact absurd (hb.symm.trans Z.nl) (by decide)) | (clear hk hL;subst hA;kernel_rfl) | (exfalso;clear hk hL;subst hA;cases hb) | skip
  refine hL _ _ _ (gM (un:=⟨false,some [0,1,4,5,6,7,8,9,10,11,12,13,14,15,16,17,18,19,20,21,23,54,68,73,78,82,105,109,133,157,165]⟩) tok ar1 aL 0 (fun i hi=>by have:=hWr i hi;simp at this) (fun q:Int×Int=>⟨[(14,⟨[], .c (.s (.int .i64 q.1))⟩),(13,⟨[], .c (.s (.int .i64 q.2))⟩),(11,⟨[], .c (.s (.hp 9 0))⟩),(4,⟨[], .c (.s (.tt false))⟩)],[(9, .fix true [.s (.hs 7), .s (.hs 8), .s .nils]),(7, .vec true .pt p),(8, .vec true .i3 T)],10⟩)
   (fun q=>J1 T q.1 q.2) (fun q=>((T.length:Int) - q.1).toNat) (0,0) (at0 T) [] ?_ (fun _=>Nat.zero_le _) ?_)
  ·subst hp hT
   exact⟨⟨⟨rfl,rfl,fun _=>rfl⟩,⟨rfl,rfl,fun _=>rfl⟩,⟨rfl,rfl,fun _=>rfl⟩,⟨rfl,rfl,fun _=>rfl⟩,trivial⟩,⟨⟨rfl,rfl,fun _=>rfl⟩,⟨rfl,rfl,rfl,rfl,fun h=>h⟩,⟨rfl,rfl,rfl,rfl,fun h=>h⟩,trivial⟩,rfl,rfl,rfl,rfl⟩
  clear hp hT B
  rintro⟨i,o⟩ hJ A2 L2 k2 hA2 hL2 hnext hexit hret
  have eA:A2=A:=hA2.trans hA.symm
  subst eA
  have hJ:J1 T i o:=hJ
  have i0:=hJ.i0
  rw[← hA2, ← hH, ← hI, ← hP]
  cbv
  repeat' with_reducible first | (intro hb;cbv) | refine UM ?_ ?_
  rotate_left
  ·have e7:=at6 Z.f hJ (at4 hA2 hb)
   subst e7
   apply hexit
   clear hexit hnext hret
   cbv
   exact hk _ _ (bW.pure rfl rfl fun ρ=>dB (by subst hA2;rfl))
  have hi:=at5 hA2 Z.lt i0 hb
  have hib:=hb
  clear hb
  refine hL2 _ _ _ (gM (un:=⟨false,some [0,1,4,5,6,7,8,9,10,11,12,13,14,15,16,17,18,19,20,21,23,54,68,73,78,82,105,109,133,157,165]⟩) tok ar1 aL 0 (fun i hi=>by have:=hWr i hi;simp at this) (fun q:Int×Int=>⟨[(15,⟨[], .c (.s (.lit .i64 q.1))⟩),(14,⟨[], .c (.s (.int .i64 i))⟩),(13,⟨[], .c (.s (.int .i64 q.2))⟩),(11,⟨[], .c (.s (.hp 9 0))⟩),(4,⟨[], .c (.s (.tt false))⟩)],[(9, .fix true [.s (.hs 7), .s (.hs 8), .s .nils]),(7, .vec true .pt p),(8, .vec true .i3 T)],10⟩)
   (fun q=>J2 T i q.1 q.2) (fun q=>(3 - q.1).toNat) (0,o) (at2 hJ) [] ?_ (fun _=>Nat.zero_le _) ?_)
  ·exact⟨⟨⟨rfl,rfl,fun _=>rfl⟩,⟨rfl,rfl,fun _=>rfl⟩,⟨rfl,rfl,fun _=>rfl⟩,⟨rfl,rfl,fun _=>rfl⟩,⟨rfl,rfl,fun _=>rfl⟩,trivial⟩,⟨⟨rfl,rfl,fun _=>rfl⟩,⟨rfl,rfl,rfl,rfl,fun h=>h⟩,⟨rfl,rfl,rfl,rfl,fun h=>h⟩,trivial⟩,rfl,rfl,rfl,rfl⟩
  rintro⟨z,o2⟩ hJ3 A3 L3 k3 hA3 hL3 hnext3 hexit3 hret3
  have eA:A3=A2:=hA3.trans hA2.symm
  subst eA
  have hJ3:J2 T i z o2:=hJ3
  rw[← hA3, ← hH, ← hI, ← hP]
  rcases h3 hJ3.k0 hJ3.k1 with rfl | rfl | rfl | rfl
  ·cbv
   repeat' with_reducible first | (intro hb;cbv) | refine UM ?_ ?_
   all_goals first | exact hi.o1 | exact hib | skip
   obtain⟨a,ha⟩: ∃ a,(gtT A3 T i).1=a:=⟨_,rfl⟩
   obtain⟨b,hb'⟩: ∃ b,(gtT A3 T i).2.1=b:=⟨_,rfl⟩
   have ea:(edK (T.getD i.toNat (0,0,0)) 0).1=a:=by subst hA3;exact ha
   have eb:(edK (T.getD i.toNat (0,0,0)) 0).2=b:=by subst hA3;exact hb'
   refine hL3 _ _ _ (gM (un:=⟨false,some [0,1,4,5,6,7,8,9,10,11,12,13,14,15,16,17,18,19,20,21,23,54,68,73,78,82,105,109,133,157,165]⟩) tok ar1 aL 0 (fun i hi=>by have:=hWr i hi;simp at this) (fun q:Int×Int×Int=>⟨[(20,⟨[], .c (.s (.int .i64 q.1))⟩),(19,⟨[], .c (.s (.int .i64 q.2.2))⟩),(18,⟨[], .c (.s (.int .i64 q.2.1))⟩),(17,⟨[], .c (.s (.int .i64 b))⟩),(16,⟨[], .c (.s (.int .i64 a))⟩),(15,⟨[], .c (.s (.lit .i64 0))⟩),(14,⟨[], .c (.s (.int .i64 i))⟩),(13,⟨[], .c (.s (.int .i64 o2))⟩),(11,⟨[], .c (.s (.hp 9 0))⟩),(4,⟨[], .c (.s (.tt false))⟩)],[(9, .fix true [.s (.hs 7), .s (.hs 8), .s .nils]),(7, .vec true .pt p),(8, .vec true .i3 T)],10⟩)
    (fun q=>J3 T a b q.1 q.2.1 q.2.2) (fun q=>((T.length:Int) - q.1).toNat) (0,0,0) (atO T a b) [] ?_ (fun _=>Nat.zero_le _) ?_)
   ·exact⟨⟨⟨rfl,rfl,fun _=>rfl⟩,⟨rfl,rfl,fun _=>rfl⟩,⟨rfl,rfl,fun _=>rfl⟩,⟨rfl,rfl,leI hb'⟩,⟨rfl,rfl,leI ha⟩,⟨rfl,rfl,fun _=>rfl⟩,⟨rfl,rfl,fun _=>rfl⟩,⟨rfl,rfl,fun _=>rfl⟩,⟨rfl,rfl,fun _=>rfl⟩,⟨rfl,rfl,fun _=>rfl⟩,trivial⟩,⟨⟨rfl,rfl,fun _=>rfl⟩,⟨rfl,rfl,rfl,rfl,fun h=>h⟩,⟨rfl,rfl,rfl,rfl,fun h=>h⟩,trivial⟩,rfl,rfl,rfl,rfl⟩
   clear ha hb'
   rintro⟨j,c,d⟩ hJ4 A4 L4 k4 hA4 hL4 hnext4 hexit4 hret4
   have eA:A4=A3:=hA4.trans hA3.symm
   subst eA
   have hJ4:J3 T a b j c d:=hJ4
   rw[← hA4, ← hH, ← hI, ← hP]
   cbv
   repeat' with_reducible first | (intro hb;cbv) | refine UM ?_ ?_
   rotate_left
   ·have he:=atR hJ4 (at4 hA4 hb)
    have kn:=auF Z.f i0 hi.lt (k:=0) (by decide) (by decide)
    have c1:c=1:=by rw[he.1, ← ea, ← eb];exact kn.1
    have hd:d=aoG (aoL T) (edK (T.getD i.toNat (0,0,0)) 0).2 (edK (T.getD i.toNat (0,0,0)) 0).1:=by rw[he.2, ← ea, ← eb]
    subst c1
    have ho:=auE hA4 Z.lt i0 hi.lt hJ3 (by decide) hd (by rw[hd];exact kn.2.1) (by rw[hd];exact kn.2.2)
    clear he kn hb
    apply hexit4
    clear hexit4 hnext4 hret4
    cbv
    repeat' with_reducible first | (intro hb;cbv) | refine UM ?_ ?_
    ·exact absurd (hb.symm.trans ho.bad) (by decide)
    refine hnext3 _ (1,_) [] ho.nx (by show((3:Int) - 1).toNat < ((3:Int) - 0).toNat;decide) ?_
    exact⟨⟨⟨rfl,rfl,fun _=>rfl⟩,⟨rfl,rfl,fun _=>rfl⟩,⟨rfl,rfl,fun _=>rfl⟩,⟨rfl,rfl,fun _=>rfl⟩,⟨rfl,rfl,fun _=>rfl⟩,trivial⟩,⟨⟨rfl,rfl,fun _=>rfl⟩,⟨rfl,rfl,rfl,rfl,fun h=>h⟩,⟨rfl,rfl,rfl,rfl,fun h=>h⟩,trivial⟩,rfl,rfl,rfl,rfl⟩
   have hj:=at5 hA4 Z.lt hJ4.j0 hb
   have hjb:=hb
   clear hb
   refine hL4 _ _ _ (gM (un:=⟨false,some [0,1,4,5,6,7,8,9,10,11,12,13,14,15,16,17,18,19,20,21,23,54,68,73,78,82,105,109,133,157,165]⟩) tok ar1 aL 0 (fun i hi=>by have:=hWr i hi;simp at this) (fun q:Int×Int×Int=>⟨[(21,⟨[], .c (.s (.lit .i64 q.1))⟩),(20,⟨[], .c (.s (.int .i64 j))⟩),(19,⟨[], .c (.s (.int .i64 q.2.2))⟩),(18,⟨[], .c (.s (.int .i64 q.2.1))⟩),(17,⟨[], .c (.s (.int .i64 b))⟩),(16,⟨[], .c (.s (.int .i64 a))⟩),(15,⟨[], .c (.s (.lit .i64 0))⟩),(14,⟨[], .c (.s (.int .i64 i))⟩),(13,⟨[], .c (.s (.int .i64 o2))⟩),(11,⟨[], .c (.s (.hp 9 0))⟩),(4,⟨[], .c (.s (.tt false))⟩)],[(9, .fix true [.s (.hs 7), .s (.hs 8), .s .nils]),(7, .vec true .pt p),(8, .vec true .i3 T)],10⟩)
    (fun q=>J4 T a b j q.1 q.2.1 q.2.2) (fun q=>(3 - q.1).toNat) (0,c,d) (atP hJ4) [] ?_ (fun _=>Nat.zero_le _) ?_)
   ·exact⟨⟨⟨rfl,rfl,fun _=>rfl⟩,⟨rfl,rfl,fun _=>rfl⟩,⟨rfl,rfl,fun _=>rfl⟩,⟨rfl,rfl,fun _=>rfl⟩,⟨rfl,rfl,fun _=>rfl⟩,⟨rfl,rfl,fun _=>rfl⟩,⟨rfl,rfl,fun _=>rfl⟩,⟨rfl,rfl,fun _=>rfl⟩,⟨rfl,rfl,fun _=>rfl⟩,⟨rfl,rfl,fun _=>rfl⟩,⟨rfl,rfl,fun _=>rfl⟩,trivial⟩,⟨⟨rfl,rfl,fun _=>rfl⟩,⟨rfl,rfl,rfl,rfl,fun h=>h⟩,⟨rfl,rfl,rfl,rfl,fun h=>h⟩,trivial⟩,rfl,rfl,rfl,rfl⟩
   rintro⟨y,c',d'⟩ hJ5 A5 L5 k5 hA5 hL5 hnext5 hexit5 hret5
   have eA:A5=A4:=hA5.trans hA4.symm
   subst eA
   have hJ5:J4 T a b j y c' d':=hJ5
   rw[← hA5, ← hH, ← hI, ← hP]
   rcases h3 hJ5.h0 hJ5.h1 with rfl | rfl | rfl | rfl
   ·have hs:=atT hA5 Z.lt hJ5 (by decide) (x:=(gtT A5 T j).1) (y:=(gtT A5 T j).2.1) (by subst hA5;rfl) (by subst hA5;rfl)
    have mlt:((3:Int) - 1).toNat < ((3:Int) - 0).toNat:=by decide
    with_reducible refine fA fun kk hn hx=>?_
    cbv
    with_reducible refine hn _ ?_
    clear hn hx kk
    with_reducible refine fA fun k7 hn7 hx7=>?_
    with_reducible refine ZM fun k8 n8 e8 x8 r8=>?_
    with_reducible refine fA fun kk hn hx=>?_
    cbv
    repeat' with_reducible first | (intro hb;cbv) | refine UM ?_ ?_
    all_goals first | (with_reducible refine sV hA5 ?_;first | exact hj.o1 | exact hjb) | exact hj.o1 | exact hjb | skip
    all_goals
     with_reducible refine hn _ ?_
     clear hn hx kk
     have g1:=hb
     clear hb
     cbv
     repeat' with_reducible first | (intro hb;cbv) | refine UM ?_ ?_
     all_goals first | (with_reducible refine sV hA5 ?_;first | exact hj.o1 | exact hjb) | exact hj.o1 | exact hjb | skip
     all_goals
      refine n8 _ ?_
      refine hn7 _ ?_
      clear n8 e8 x8 r8 hn7 hx7
      cbv
      first | (refine hnext5 _ (1,_,_) [] (hs.n11 g1 hb) mlt ?_;exact⟨⟨⟨rfl,rfl,fun _=>rfl⟩,⟨rfl,rfl,fun _=>rfl⟩,⟨rfl,rfl,fun _=>rfl⟩,⟨rfl,rfl,fun _=>rfl⟩,⟨rfl,rfl,fun _=>rfl⟩,⟨rfl,rfl,fun _=>rfl⟩,⟨rfl,rfl,fun _=>rfl⟩,⟨rfl,rfl,fun _=>rfl⟩,⟨rfl,rfl,fun _=>rfl⟩,⟨rfl,rfl,fun _=>rfl⟩,⟨rfl,rfl,fun _=>rfl⟩,trivial⟩,⟨⟨rfl,rfl,fun _=>rfl⟩,⟨rfl,rfl,rfl,rfl,fun h=>h⟩,⟨rfl,rfl,rfl,rfl,fun h=>h⟩,trivial⟩,rfl,rfl,rfl,rfl⟩) | (refine hnext5 _ (1,_,_) [] (hs.n10 g1 hb) mlt ?_;exact⟨⟨⟨rfl,rfl,fun _=>rfl⟩,⟨rfl,rfl,fun _=>rfl⟩,⟨rfl,rfl,fun _=>rfl⟩,⟨rfl,rfl,fun _=>rfl⟩,⟨rfl,rfl,fun _=>rfl⟩,⟨rfl,rfl,fun _=>rfl⟩,⟨rfl,rfl,fun _=>rfl⟩,⟨rfl,rfl,fun _=>rfl⟩,⟨rfl,rfl,fun _=>rfl⟩,⟨rfl,rfl,fun _=>rfl⟩,⟨rfl,rfl,fun _=>rfl⟩,trivial⟩,⟨⟨rfl,rfl,fun _=>rfl⟩,⟨rfl,rfl,rfl,rfl,fun h=>h⟩,⟨rfl,rfl,rfl,rfl,fun h=>h⟩,trivial⟩,rfl,rfl,rfl,rfl⟩) | (refine hnext5 _ (1,_,_) [] (hs.n01 g1 hb) mlt ?_;exact⟨⟨⟨rfl,rfl,fun _=>rfl⟩,⟨rfl,rfl,fun _=>rfl⟩,⟨rfl,rfl,fun _=>rfl⟩,⟨rfl,rfl,fun _=>rfl⟩,⟨rfl,rfl,fun _=>rfl⟩,⟨rfl,rfl,fun _=>rfl⟩,⟨rfl,rfl,fun _=>rfl⟩,⟨rfl,rfl,fun _=>rfl⟩,⟨rfl,rfl,fun _=>rfl⟩,⟨rfl,rfl,fun _=>rfl⟩,⟨rfl,rfl,fun _=>rfl⟩,trivial⟩,⟨⟨rfl,rfl,fun _=>rfl⟩,⟨rfl,rfl,rfl,rfl,fun h=>h⟩,⟨rfl,rfl,rfl,rfl,fun h=>h⟩,trivial⟩,rfl,rfl,rfl,rfl⟩) | (refine hnext5 _ (1,_,_) [] (hs.n00 g1 hb) mlt ?_;exact⟨⟨⟨rfl,rfl,fun _=>rfl⟩,⟨rfl,rfl,fun _=>rfl⟩,⟨rfl,rfl,fun _=>rfl⟩,⟨rfl,rfl,fun _=>rfl⟩,⟨rfl,rfl,fun _=>rfl⟩,⟨rfl,rfl,fun _=>rfl⟩,⟨rfl,rfl,fun _=>rfl⟩,⟨rfl,rfl,fun _=>rfl⟩,⟨rfl,rfl,fun _=>rfl⟩,⟨rfl,rfl,fun _=>rfl⟩,⟨rfl,rfl,fun _=>rfl⟩,trivial⟩,⟨⟨rfl,rfl,fun _=>rfl⟩,⟨rfl,rfl,rfl,rfl,fun h=>h⟩,⟨rfl,rfl,rfl,rfl,fun h=>h⟩,trivial⟩,rfl,rfl,rfl,rfl⟩)
   ·have hs:=atT hA5 Z.lt hJ5 (by decide) (x:=(gtT A5 T j).2.1) (y:=(gtT A5 T j).2.2) (by subst hA5;rfl) (by subst hA5;rfl)
    have mlt:((3:Int) - 2).toNat < ((3:Int) - 1).toNat:=by decide
    with_reducible refine fA fun kk hn hx=>?_
    cbv
    with_reducible refine hn _ ?_
    clear hn hx kk
    with_reducible refine fA fun k7 hn7 hx7=>?_
    with_reducible refine ZM fun k8 n8 e8 x8 r8=>?_
    with_reducible refine fA fun kk hn hx=>?_
    cbv
    repeat' with_reducible first | (intro hb;cbv) | refine UM ?_ ?_
    all_goals first | (with_reducible refine sV hA5 ?_;first | exact hj.o1 | exact hjb) | exact hj.o1 | exact hjb | skip
    all_goals
     with_reducible refine hn _ ?_
     clear hn hx kk
     have g1:=hb
     clear hb
     cbv
     repeat' with_reducible first | (intro hb;cbv) | refine UM ?_ ?_
     all_goals first | (with_reducible refine sV hA5 ?_;first | exact hj.o1 | exact hjb) | exact hj.o1 | exact hjb | skip
     all_goals
      refine n8 _ ?_
      refine hn7 _ ?_
      clear n8 e8 x8 r8 hn7 hx7
      cbv
      first | (refine hnext5 _ (2,_,_) [] (hs.n11 g1 hb) mlt ?_;exact⟨⟨⟨rfl,rfl,fun _=>rfl⟩,⟨rfl,rfl,fun _=>rfl⟩,⟨rfl,rfl,fun _=>rfl⟩,⟨rfl,rfl,fun _=>rfl⟩,⟨rfl,rfl,fun _=>rfl⟩,⟨rfl,rfl,fun _=>rfl⟩,⟨rfl,rfl,fun _=>rfl⟩,⟨rfl,rfl,fun _=>rfl⟩,⟨rfl,rfl,fun _=>rfl⟩,⟨rfl,rfl,fun _=>rfl⟩,⟨rfl,rfl,fun _=>rfl⟩,trivial⟩,⟨⟨rfl,rfl,fun _=>rfl⟩,⟨rfl,rfl,rfl,rfl,fun h=>h⟩,⟨rfl,rfl,rfl,rfl,fun h=>h⟩,trivial⟩,rfl,rfl,rfl,rfl⟩) | (refine hnext5 _ (2,_,_) [] (hs.n10 g1 hb) mlt ?_;exact⟨⟨⟨rfl,rfl,fun _=>rfl⟩,⟨rfl,rfl,fun _=>rfl⟩,⟨rfl,rfl,fun _=>rfl⟩,⟨rfl,rfl,fun _=>rfl⟩,⟨rfl,rfl,fun _=>rfl⟩,⟨rfl,rfl,fun _=>rfl⟩,⟨rfl,rfl,fun _=>rfl⟩,⟨rfl,rfl,fun _=>rfl⟩,⟨rfl,rfl,fun _=>rfl⟩,⟨rfl,rfl,fun _=>rfl⟩,⟨rfl,rfl,fun _=>rfl⟩,trivial⟩,⟨⟨rfl,rfl,fun _=>rfl⟩,⟨rfl,rfl,rfl,rfl,fun h=>h⟩,⟨rfl,rfl,rfl,rfl,fun h=>h⟩,trivial⟩,rfl,rfl,rfl,rfl⟩) | (refine hnext5 _ (2,_,_) [] (hs.n01 g1 hb) mlt ?_;exact⟨⟨⟨rfl,rfl,fun _=>rfl⟩,⟨rfl,rfl,fun _=>rfl⟩,⟨rfl,rfl,fun _=>rfl⟩,⟨rfl,rfl,fun _=>rfl⟩,⟨rfl,rfl,fun _=>rfl⟩,⟨rfl,rfl,fun _=>rfl⟩,⟨rfl,rfl,fun _=>rfl⟩,⟨rfl,rfl,fun _=>rfl⟩,⟨rfl,rfl,fun _=>rfl⟩,⟨rfl,rfl,fun _=>rfl⟩,⟨rfl,rfl,fun _=>rfl⟩,trivial⟩,⟨⟨rfl,rfl,fun _=>rfl⟩,⟨rfl,rfl,rfl,rfl,fun h=>h⟩,⟨rfl,rfl,rfl,rfl,fun h=>h⟩,trivial⟩,rfl,rfl,rfl,rfl⟩) | (refine hnext5 _ (2,_,_) [] (hs.n00 g1 hb) mlt ?_;exact⟨⟨⟨rfl,rfl,fun _=>rfl⟩,⟨rfl,rfl,fun _=>rfl⟩,⟨rfl,rfl,fun _=>rfl⟩,⟨rfl,rfl,fun _=>rfl⟩,⟨rfl,rfl,fun _=>rfl⟩,⟨rfl,rfl,fun _=>rfl⟩,⟨rfl,rfl,fun _=>rfl⟩,⟨rfl,rfl,fun _=>rfl⟩,⟨rfl,rfl,fun _=>rfl⟩,⟨rfl,rfl,fun _=>rfl⟩,⟨rfl,rfl,fun _=>rfl⟩,trivial⟩,⟨⟨rfl,rfl,fun _=>rfl⟩,⟨rfl,rfl,rfl,rfl,fun h=>h⟩,⟨rfl,rfl,rfl,rfl,fun h=>h⟩,trivial⟩,rfl,rfl,rfl,rfl⟩)
   ·have hs:=atT hA5 Z.lt hJ5 (by decide) (x:=(gtT A5 T j).2.2) (y:=(gtT A5 T j).1) (by subst hA5;rfl) (by subst hA5;rfl)
    have mlt:((3:Int) - 3).toNat < ((3:Int) - 2).toNat:=by decide
    with_reducible refine fA fun kk hn hx=>?_
    cbv
    with_reducible refine hn _ ?_
    clear hn hx kk
    with_reducible refine fA fun k7 hn7 hx7=>?_
    with_reducible refine ZM fun k8 n8 e8 x8 r8=>?_
    with_reducible refine fA fun kk hn hx=>?_
    cbv
    repeat' with_reducible first | (intro hb;cbv) | refine UM ?_ ?_
    all_goals first | (with_reducible refine sV hA5 ?_;first | exact hj.o1 | exact hjb) | exact hj.o1 | exact hjb | skip
    all_goals
     with_reducible refine hn _ ?_
     clear hn hx kk
     have g1:=hb
     clear hb
     cbv
     repeat' with_reducible first | (intro hb;cbv) | refine UM ?_ ?_
     all_goals first | (with_reducible refine sV hA5 ?_;first | exact hj.o1 | exact hjb) | exact hj.o1 | exact hjb | skip
     all_goals
      refine n8 _ ?_
      refine hn7 _ ?_
      clear n8 e8 x8 r8 hn7 hx7
      cbv
      first | (refine hnext5 _ (3,_,_) [] (hs.n11 g1 hb) mlt ?_;exact⟨⟨⟨rfl,rfl,fun _=>rfl⟩,⟨rfl,rfl,fun _=>rfl⟩,⟨rfl,rfl,fun _=>rfl⟩,⟨rfl,rfl,fun _=>rfl⟩,⟨rfl,rfl,fun _=>rfl⟩,⟨rfl,rfl,fun _=>rfl⟩,⟨rfl,rfl,fun _=>rfl⟩,⟨rfl,rfl,fun _=>rfl⟩,⟨rfl,rfl,fun _=>rfl⟩,⟨rfl,rfl,fun _=>rfl⟩,⟨rfl,rfl,fun _=>rfl⟩,trivial⟩,⟨⟨rfl,rfl,fun _=>rfl⟩,⟨rfl,rfl,rfl,rfl,fun h=>h⟩,⟨rfl,rfl,rfl,rfl,fun h=>h⟩,trivial⟩,rfl,rfl,rfl,rfl⟩) | (refine hnext5 _ (3,_,_) [] (hs.n10 g1 hb) mlt ?_;exact⟨⟨⟨rfl,rfl,fun _=>rfl⟩,⟨rfl,rfl,fun _=>rfl⟩,⟨rfl,rfl,fun _=>rfl⟩,⟨rfl,rfl,fun _=>rfl⟩,⟨rfl,rfl,fun _=>rfl⟩,⟨rfl,rfl,fun _=>rfl⟩,⟨rfl,rfl,fun _=>rfl⟩,⟨rfl,rfl,fun _=>rfl⟩,⟨rfl,rfl,fun _=>rfl⟩,⟨rfl,rfl,fun _=>rfl⟩,⟨rfl,rfl,fun _=>rfl⟩,trivial⟩,⟨⟨rfl,rfl,fun _=>rfl⟩,⟨rfl,rfl,rfl,rfl,fun h=>h⟩,⟨rfl,rfl,rfl,rfl,fun h=>h⟩,trivial⟩,rfl,rfl,rfl,rfl⟩) | (refine hnext5 _ (3,_,_) [] (hs.n01 g1 hb) mlt ?_;exact⟨⟨⟨rfl,rfl,fun _=>rfl⟩,⟨rfl,rfl,fun _=>rfl⟩,⟨rfl,rfl,fun _=>rfl⟩,⟨rfl,rfl,fun _=>rfl⟩,⟨rfl,rfl,fun _=>rfl⟩,⟨rfl,rfl,fun _=>rfl⟩,⟨rfl,rfl,fun _=>rfl⟩,⟨rfl,rfl,fun _=>rfl⟩,⟨rfl,rfl,fun _=>rfl⟩,⟨rfl,rfl,fun _=>rfl⟩,⟨rfl,rfl,fun _=>rfl⟩,trivial⟩,⟨⟨rfl,rfl,fun _=>rfl⟩,⟨rfl,rfl,rfl,rfl,fun h=>h⟩,⟨rfl,rfl,rfl,rfl,fun h=>h⟩,trivial⟩,rfl,rfl,rfl,rfl⟩) | (refine hnext5 _ (3,_,_) [] (hs.n00 g1 hb) mlt ?_;exact⟨⟨⟨rfl,rfl,fun _=>rfl⟩,⟨rfl,rfl,fun _=>rfl⟩,⟨rfl,rfl,fun _=>rfl⟩,⟨rfl,rfl,fun _=>rfl⟩,⟨rfl,rfl,fun _=>rfl⟩,⟨rfl,rfl,fun _=>rfl⟩,⟨rfl,rfl,fun _=>rfl⟩,⟨rfl,rfl,fun _=>rfl⟩,⟨rfl,rfl,fun _=>rfl⟩,⟨rfl,rfl,fun _=>rfl⟩,⟨rfl,rfl,fun _=>rfl⟩,trivial⟩,⟨⟨rfl,rfl,fun _=>rfl⟩,⟨rfl,rfl,rfl,rfl,fun h=>h⟩,⟨rfl,rfl,rfl,rfl,fun h=>h⟩,trivial⟩,rfl,rfl,rfl,rfl⟩)
   ·cbv
    repeat' with_reducible first | (intro hb;cbv) | refine UM ?_ ?_
    apply hexit5
    clear hexit5 hnext5 hret5
    cbv
    refine hnext4 _ (j+1,c',d') [] (atS hJ4.j0 hj.lt hJ5) hj.ms ?_
    have ead:=hj.ad
    subst hA5
    exact⟨⟨⟨rfl,rfl,leI ead⟩,⟨rfl,rfl,fun _=>rfl⟩,⟨rfl,rfl,fun _=>rfl⟩,⟨rfl,rfl,fun _=>rfl⟩,⟨rfl,rfl,fun _=>rfl⟩,⟨rfl,rfl,fun _=>rfl⟩,⟨rfl,rfl,fun _=>rfl⟩,⟨rfl,rfl,fun _=>rfl⟩,⟨rfl,rfl,fun _=>rfl⟩,⟨rfl,rfl,fun _=>rfl⟩,trivial⟩,⟨⟨rfl,rfl,fun _=>rfl⟩,⟨rfl,rfl,rfl,rfl,fun h=>h⟩,⟨rfl,rfl,rfl,rfl,fun h=>h⟩,trivial⟩,rfl,rfl,rfl,rfl⟩
  ·cbv
   repeat' with_reducible first | (intro hb;cbv) | refine UM ?_ ?_
   all_goals first | exact hi.o1 | exact hib | skip
   obtain⟨a,ha⟩: ∃ a,(gtT A3 T i).2.1=a:=⟨_,rfl⟩
   obtain⟨b,hb'⟩: ∃ b,(gtT A3 T i).2.2=b:=⟨_,rfl⟩
   have ea:(edK (T.getD i.toNat (0,0,0)) 1).1=a:=by subst hA3;exact ha
   have eb:(edK (T.getD i.toNat (0,0,0)) 1).2=b:=by subst hA3;exact hb'
   refine hL3 _ _ _ (gM (un:=⟨false,some [0,1,4,5,6,7,8,9,10,11,12,13,14,15,16,17,18,19,20,21,23,54,68,73,78,82,105,109,133,157,165]⟩) tok ar1 aL 0 (fun i hi=>by have:=hWr i hi;simp at this) (fun q:Int×Int×Int=>⟨[(20,⟨[], .c (.s (.int .i64 q.1))⟩),(19,⟨[], .c (.s (.int .i64 q.2.2))⟩),(18,⟨[], .c (.s (.int .i64 q.2.1))⟩),(17,⟨[], .c (.s (.int .i64 b))⟩),(16,⟨[], .c (.s (.int .i64 a))⟩),(15,⟨[], .c (.s (.lit .i64 1))⟩),(14,⟨[], .c (.s (.int .i64 i))⟩),(13,⟨[], .c (.s (.int .i64 o2))⟩),(11,⟨[], .c (.s (.hp 9 0))⟩),(4,⟨[], .c (.s (.tt false))⟩)],[(9, .fix true [.s (.hs 7), .s (.hs 8), .s .nils]),(7, .vec true .pt p),(8, .vec true .i3 T)],10⟩)
    (fun q=>J3 T a b q.1 q.2.1 q.2.2) (fun q=>((T.length:Int) - q.1).toNat) (0,0,0) (atO T a b) [] ?_ (fun _=>Nat.zero_le _) ?_)
   ·exact⟨⟨⟨rfl,rfl,fun _=>rfl⟩,⟨rfl,rfl,fun _=>rfl⟩,⟨rfl,rfl,fun _=>rfl⟩,⟨rfl,rfl,leI hb'⟩,⟨rfl,rfl,leI ha⟩,⟨rfl,rfl,fun _=>rfl⟩,⟨rfl,rfl,fun _=>rfl⟩,⟨rfl,rfl,fun _=>rfl⟩,⟨rfl,rfl,fun _=>rfl⟩,⟨rfl,rfl,fun _=>rfl⟩,trivial⟩,⟨⟨rfl,rfl,fun _=>rfl⟩,⟨rfl,rfl,rfl,rfl,fun h=>h⟩,⟨rfl,rfl,rfl,rfl,fun h=>h⟩,trivial⟩,rfl,rfl,rfl,rfl⟩
   clear ha hb'
   rintro⟨j,c,d⟩ hJ4 A4 L4 k4 hA4 hL4 hnext4 hexit4 hret4
   have eA:A4=A3:=hA4.trans hA3.symm
   subst eA
   have hJ4:J3 T a b j c d:=hJ4
   rw[← hA4, ← hH, ← hI, ← hP]
   cbv
   repeat' with_reducible first | (intro hb;cbv) | refine UM ?_ ?_
   rotate_left
   ·have he:=atR hJ4 (at4 hA4 hb)
    have kn:=auF Z.f i0 hi.lt (k:=1) (by decide) (by decide)
    have c1:c=1:=by rw[he.1, ← ea, ← eb];exact kn.1
    have hd:d=aoG (aoL T) (edK (T.getD i.toNat (0,0,0)) 1).2 (edK (T.getD i.toNat (0,0,0)) 1).1:=by rw[he.2, ← ea, ← eb]
    subst c1
    have ho:=auE hA4 Z.lt i0 hi.lt hJ3 (by decide) hd (by rw[hd];exact kn.2.1) (by rw[hd];exact kn.2.2)
    clear he kn hb
    apply hexit4
    clear hexit4 hnext4 hret4
    cbv
    repeat' with_reducible first | (intro hb;cbv) | refine UM ?_ ?_
    ·exact absurd (hb.symm.trans ho.bad) (by decide)
    refine hnext3 _ (2,_) [] ho.nx (by show((3:Int) - 2).toNat < ((3:Int) - 1).toNat;decide) ?_
    exact⟨⟨⟨rfl,rfl,fun _=>rfl⟩,⟨rfl,rfl,fun _=>rfl⟩,⟨rfl,rfl,fun _=>rfl⟩,⟨rfl,rfl,fun _=>rfl⟩,⟨rfl,rfl,fun _=>rfl⟩,trivial⟩,⟨⟨rfl,rfl,fun _=>rfl⟩,⟨rfl,rfl,rfl,rfl,fun h=>h⟩,⟨rfl,rfl,rfl,rfl,fun h=>h⟩,trivial⟩,rfl,rfl,rfl,rfl⟩
   have hj:=at5 hA4 Z.lt hJ4.j0 hb
   have hjb:=hb
   clear hb
   refine hL4 _ _ _ (gM (un:=⟨false,some [0,1,4,5,6,7,8,9,10,11,12,13,14,15,16,17,18,19,20,21,23,54,68,73,78,82,105,109,133,157,165]⟩) tok ar1 aL 0 (fun i hi=>by have:=hWr i hi;simp at this) (fun q:Int×Int×Int=>⟨[(21,⟨[], .c (.s (.lit .i64 q.1))⟩),(20,⟨[], .c (.s (.int .i64 j))⟩),(19,⟨[], .c (.s (.int .i64 q.2.2))⟩),(18,⟨[], .c (.s (.int .i64 q.2.1))⟩),(17,⟨[], .c (.s (.int .i64 b))⟩),(16,⟨[], .c (.s (.int .i64 a))⟩),(15,⟨[], .c (.s (.lit .i64 1))⟩),(14,⟨[], .c (.s (.int .i64 i))⟩),(13,⟨[], .c (.s (.int .i64 o2))⟩),(11,⟨[], .c (.s (.hp 9 0))⟩),(4,⟨[], .c (.s (.tt false))⟩)],[(9, .fix true [.s (.hs 7), .s (.hs 8), .s .nils]),(7, .vec true .pt p),(8, .vec true .i3 T)],10⟩)
    (fun q=>J4 T a b j q.1 q.2.1 q.2.2) (fun q=>(3 - q.1).toNat) (0,c,d) (atP hJ4) [] ?_ (fun _=>Nat.zero_le _) ?_)
   ·exact⟨⟨⟨rfl,rfl,fun _=>rfl⟩,⟨rfl,rfl,fun _=>rfl⟩,⟨rfl,rfl,fun _=>rfl⟩,⟨rfl,rfl,fun _=>rfl⟩,⟨rfl,rfl,fun _=>rfl⟩,⟨rfl,rfl,fun _=>rfl⟩,⟨rfl,rfl,fun _=>rfl⟩,⟨rfl,rfl,fun _=>rfl⟩,⟨rfl,rfl,fun _=>rfl⟩,⟨rfl,rfl,fun _=>rfl⟩,⟨rfl,rfl,fun _=>rfl⟩,trivial⟩,⟨⟨rfl,rfl,fun _=>rfl⟩,⟨rfl,rfl,rfl,rfl,fun h=>h⟩,⟨rfl,rfl,rfl,rfl,fun h=>h⟩,trivial⟩,rfl,rfl,rfl,rfl⟩
   rintro⟨y,c',d'⟩ hJ5 A5 L5 k5 hA5 hL5 hnext5 hexit5 hret5
   have eA:A5=A4:=hA5.trans hA4.symm
   subst eA
   have hJ5:J4 T a b j y c' d':=hJ5
   rw[← hA5, ← hH, ← hI, ← hP]
   rcases h3 hJ5.h0 hJ5.h1 with rfl | rfl | rfl | rfl
   ·have hs:=atT hA5 Z.lt hJ5 (by decide) (x:=(gtT A5 T j).1) (y:=(gtT A5 T j).2.1) (by subst hA5;rfl) (by subst hA5;rfl)
    have mlt:((3:Int) - 1).toNat < ((3:Int) - 0).toNat:=by decide
    with_reducible refine fA fun kk hn hx=>?_
    cbv
    with_reducible refine hn _ ?_
    clear hn hx kk
    with_reducible refine fA fun k7 hn7 hx7=>?_
    with_reducible refine ZM fun k8 n8 e8 x8 r8=>?_
    with_reducible refine fA fun kk hn hx=>?_
    cbv
    repeat' with_reducible first | (intro hb;cbv) | refine UM ?_ ?_
    all_goals first | (with_reducible refine sV hA5 ?_;first | exact hj.o1 | exact hjb) | exact hj.o1 | exact hjb | skip
    all_goals
     with_reducible refine hn _ ?_
     clear hn hx kk
     have g1:=hb
     clear hb
     cbv
     repeat' with_reducible first | (intro hb;cbv) | refine UM ?_ ?_
     all_goals first | (with_reducible refine sV hA5 ?_;first | exact hj.o1 | exact hjb) | exact hj.o1 | exact hjb | skip
     all_goals
      refine n8 _ ?_
      refine hn7 _ ?_
      clear n8 e8 x8 r8 hn7 hx7
      cbv
      first | (refine hnext5 _ (1,_,_) [] (hs.n11 g1 hb) mlt ?_;exact⟨⟨⟨rfl,rfl,fun _=>rfl⟩,⟨rfl,rfl,fun _=>rfl⟩,⟨rfl,rfl,fun _=>rfl⟩,⟨rfl,rfl,fun _=>rfl⟩,⟨rfl,rfl,fun _=>rfl⟩,⟨rfl,rfl,fun _=>rfl⟩,⟨rfl,rfl,fun _=>rfl⟩,⟨rfl,rfl,fun _=>rfl⟩,⟨rfl,rfl,fun _=>rfl⟩,⟨rfl,rfl,fun _=>rfl⟩,⟨rfl,rfl,fun _=>rfl⟩,trivial⟩,⟨⟨rfl,rfl,fun _=>rfl⟩,⟨rfl,rfl,rfl,rfl,fun h=>h⟩,⟨rfl,rfl,rfl,rfl,fun h=>h⟩,trivial⟩,rfl,rfl,rfl,rfl⟩) | (refine hnext5 _ (1,_,_) [] (hs.n10 g1 hb) mlt ?_;exact⟨⟨⟨rfl,rfl,fun _=>rfl⟩,⟨rfl,rfl,fun _=>rfl⟩,⟨rfl,rfl,fun _=>rfl⟩,⟨rfl,rfl,fun _=>rfl⟩,⟨rfl,rfl,fun _=>rfl⟩,⟨rfl,rfl,fun _=>rfl⟩,⟨rfl,rfl,fun _=>rfl⟩,⟨rfl,rfl,fun _=>rfl⟩,⟨rfl,rfl,fun _=>rfl⟩,⟨rfl,rfl,fun _=>rfl⟩,⟨rfl,rfl,fun _=>rfl⟩,trivial⟩,⟨⟨rfl,rfl,fun _=>rfl⟩,⟨rfl,rfl,rfl,rfl,fun h=>h⟩,⟨rfl,rfl,rfl,rfl,fun h=>h⟩,trivial⟩,rfl,rfl,rfl,rfl⟩) | (refine hnext5 _ (1,_,_) [] (hs.n01 g1 hb) mlt ?_;exact⟨⟨⟨rfl,rfl,fun _=>rfl⟩,⟨rfl,rfl,fun _=>rfl⟩,⟨rfl,rfl,fun _=>rfl⟩,⟨rfl,rfl,fun _=>rfl⟩,⟨rfl,rfl,fun _=>rfl⟩,⟨rfl,rfl,fun _=>rfl⟩,⟨rfl,rfl,fun _=>rfl⟩,⟨rfl,rfl,fun _=>rfl⟩,⟨rfl,rfl,fun _=>rfl⟩,⟨rfl,rfl,fun _=>rfl⟩,⟨rfl,rfl,fun _=>rfl⟩,trivial⟩,⟨⟨rfl,rfl,fun _=>rfl⟩,⟨rfl,rfl,rfl,rfl,fun h=>h⟩,⟨rfl,rfl,rfl,rfl,fun h=>h⟩,trivial⟩,rfl,rfl,rfl,rfl⟩) | (refine hnext5 _ (1,_,_) [] (hs.n00 g1 hb) mlt ?_;exact⟨⟨⟨rfl,rfl,fun _=>rfl⟩,⟨rfl,rfl,fun _=>rfl⟩,⟨rfl,rfl,fun _=>rfl⟩,⟨rfl,rfl,fun _=>rfl⟩,⟨rfl,rfl,fun _=>rfl⟩,⟨rfl,rfl,fun _=>rfl⟩,⟨rfl,rfl,fun _=>rfl⟩,⟨rfl,rfl,fun _=>rfl⟩,⟨rfl,rfl,fun _=>rfl⟩,⟨rfl,rfl,fun _=>rfl⟩,⟨rfl,rfl,fun _=>rfl⟩,trivial⟩,⟨⟨rfl,rfl,fun _=>rfl⟩,⟨rfl,rfl,rfl,rfl,fun h=>h⟩,⟨rfl,rfl,rfl,rfl,fun h=>h⟩,trivial⟩,rfl,rfl,rfl,rfl⟩)
   ·have hs:=atT hA5 Z.lt hJ5 (by decide) (x:=(gtT A5 T j).2.1) (y:=(gtT A5 T j).2.2) (by subst hA5;rfl) (by subst hA5;rfl)
    have mlt:((3:Int) - 2).toNat < ((3:Int) - 1).toNat:=by decide
    with_reducible refine fA fun kk hn hx=>?_
    cbv
    with_reducible refine hn _ ?_
    clear hn hx kk
    with_reducible refine fA fun k7 hn7 hx7=>?_
    with_reducible refine ZM fun k8 n8 e8 x8 r8=>?_
    with_reducible refine fA fun kk hn hx=>?_
    cbv
    repeat' with_reducible first | (intro hb;cbv) | refine UM ?_ ?_
    all_goals first | (with_reducible refine sV hA5 ?_;first | exact hj.o1 | exact hjb) | exact hj.o1 | exact hjb | skip
    all_goals
     with_reducible refine hn _ ?_
     clear hn hx kk
     have g1:=hb
     clear hb
     cbv
     repeat' with_reducible first | (intro hb;cbv) | refine UM ?_ ?_
     all_goals first | (with_reducible refine sV hA5 ?_;first | exact hj.o1 | exact hjb) | exact hj.o1 | exact hjb | skip
     all_goals
      refine n8 _ ?_
      refine hn7 _ ?_
      clear n8 e8 x8 r8 hn7 hx7
      cbv
      first | (refine hnext5 _ (2,_,_) [] (hs.n11 g1 hb) mlt ?_;exact⟨⟨⟨rfl,rfl,fun _=>rfl⟩,⟨rfl,rfl,fun _=>rfl⟩,⟨rfl,rfl,fun _=>rfl⟩,⟨rfl,rfl,fun _=>rfl⟩,⟨rfl,rfl,fun _=>rfl⟩,⟨rfl,rfl,fun _=>rfl⟩,⟨rfl,rfl,fun _=>rfl⟩,⟨rfl,rfl,fun _=>rfl⟩,⟨rfl,rfl,fun _=>rfl⟩,⟨rfl,rfl,fun _=>rfl⟩,⟨rfl,rfl,fun _=>rfl⟩,trivial⟩,⟨⟨rfl,rfl,fun _=>rfl⟩,⟨rfl,rfl,rfl,rfl,fun h=>h⟩,⟨rfl,rfl,rfl,rfl,fun h=>h⟩,trivial⟩,rfl,rfl,rfl,rfl⟩) | (refine hnext5 _ (2,_,_) [] (hs.n10 g1 hb) mlt ?_;exact⟨⟨⟨rfl,rfl,fun _=>rfl⟩,⟨rfl,rfl,fun _=>rfl⟩,⟨rfl,rfl,fun _=>rfl⟩,⟨rfl,rfl,fun _=>rfl⟩,⟨rfl,rfl,fun _=>rfl⟩,⟨rfl,rfl,fun _=>rfl⟩,⟨rfl,rfl,fun _=>rfl⟩,⟨rfl,rfl,fun _=>rfl⟩,⟨rfl,rfl,fun _=>rfl⟩,⟨rfl,rfl,fun _=>rfl⟩,⟨rfl,rfl,fun _=>rfl⟩,trivial⟩,⟨⟨rfl,rfl,fun _=>rfl⟩,⟨rfl,rfl,rfl,rfl,fun h=>h⟩,⟨rfl,rfl,rfl,rfl,fun h=>h⟩,trivial⟩,rfl,rfl,rfl,rfl⟩) | (refine hnext5 _ (2,_,_) [] (hs.n01 g1 hb) mlt ?_;exact⟨⟨⟨rfl,rfl,fun _=>rfl⟩,⟨rfl,rfl,fun _=>rfl⟩,⟨rfl,rfl,fun _=>rfl⟩,⟨rfl,rfl,fun _=>rfl⟩,⟨rfl,rfl,fun _=>rfl⟩,⟨rfl,rfl,fun _=>rfl⟩,⟨rfl,rfl,fun _=>rfl⟩,⟨rfl,rfl,fun _=>rfl⟩,⟨rfl,rfl,fun _=>rfl⟩,⟨rfl,rfl,fun _=>rfl⟩,⟨rfl,rfl,fun _=>rfl⟩,trivial⟩,⟨⟨rfl,rfl,fun _=>rfl⟩,⟨rfl,rfl,rfl,rfl,fun h=>h⟩,⟨rfl,rfl,rfl,rfl,fun h=>h⟩,trivial⟩,rfl,rfl,rfl,rfl⟩) | (refine hnext5 _ (2,_,_) [] (hs.n00 g1 hb) mlt ?_;exact⟨⟨⟨rfl,rfl,fun _=>rfl⟩,⟨rfl,rfl,fun _=>rfl⟩,⟨rfl,rfl,fun _=>rfl⟩,⟨rfl,rfl,fun _=>rfl⟩,⟨rfl,rfl,fun _=>rfl⟩,⟨rfl,rfl,fun _=>rfl⟩,⟨rfl,rfl,fun _=>rfl⟩,⟨rfl,rfl,fun _=>rfl⟩,⟨rfl,rfl,fun _=>rfl⟩,⟨rfl,rfl,fun _=>rfl⟩,⟨rfl,rfl,fun _=>rfl⟩,trivial⟩,⟨⟨rfl,rfl,fun _=>rfl⟩,⟨rfl,rfl,rfl,rfl,fun h=>h⟩,⟨rfl,rfl,rfl,rfl,fun h=>h⟩,trivial⟩,rfl,rfl,rfl,rfl⟩)
   ·have hs:=atT hA5 Z.lt hJ5 (by decide) (x:=(gtT A5 T j).2.2) (y:=(gtT A5 T j).1) (by subst hA5;rfl) (by subst hA5;rfl)
    have mlt:((3:Int) - 3).toNat < ((3:Int) - 2).toNat:=by decide
    with_reducible refine fA fun kk hn hx=>?_
    cbv
    with_reducible refine hn _ ?_
    clear hn hx kk
    with_reducible refine fA fun k7 hn7 hx7=>?_
    with_reducible refine ZM fun k8 n8 e8 x8 r8=>?_
    with_reducible refine fA fun kk hn hx=>?_
    cbv
    repeat' with_reducible first | (intro hb;cbv) | refine UM ?_ ?_
    all_goals first | (with_reducible refine sV hA5 ?_;first | exact hj.o1 | exact hjb) | exact hj.o1 | exact hjb | skip
    all_goals
     with_reducible refine hn _ ?_
     clear hn hx kk
     have g1:=hb
     clear hb
     cbv
     repeat' with_reducible first | (intro hb;cbv) | refine UM ?_ ?_
     all_goals first | (with_reducible refine sV hA5 ?_;first | exact hj.o1 | exact hjb) | exact hj.o1 | exact hjb | skip
     all_goals
      refine n8 _ ?_
      refine hn7 _ ?_
      clear n8 e8 x8 r8 hn7 hx7
      cbv
      first | (refine hnext5 _ (3,_,_) [] (hs.n11 g1 hb) mlt ?_;exact⟨⟨⟨rfl,rfl,fun _=>rfl⟩,⟨rfl,rfl,fun _=>rfl⟩,⟨rfl,rfl,fun _=>rfl⟩,⟨rfl,rfl,fun _=>rfl⟩,⟨rfl,rfl,fun _=>rfl⟩,⟨rfl,rfl,fun _=>rfl⟩,⟨rfl,rfl,fun _=>rfl⟩,⟨rfl,rfl,fun _=>rfl⟩,⟨rfl,rfl,fun _=>rfl⟩,⟨rfl,rfl,fun _=>rfl⟩,⟨rfl,rfl,fun _=>rfl⟩,trivial⟩,⟨⟨rfl,rfl,fun _=>rfl⟩,⟨rfl,rfl,rfl,rfl,fun h=>h⟩,⟨rfl,rfl,rfl,rfl,fun h=>h⟩,trivial⟩,rfl,rfl,rfl,rfl⟩) | (refine hnext5 _ (3,_,_) [] (hs.n10 g1 hb) mlt ?_;exact⟨⟨⟨rfl,rfl,fun _=>rfl⟩,⟨rfl,rfl,fun _=>rfl⟩,⟨rfl,rfl,fun _=>rfl⟩,⟨rfl,rfl,fun _=>rfl⟩,⟨rfl,rfl,fun _=>rfl⟩,⟨rfl,rfl,fun _=>rfl⟩,⟨rfl,rfl,fun _=>rfl⟩,⟨rfl,rfl,fun _=>rfl⟩,⟨rfl,rfl,fun _=>rfl⟩,⟨rfl,rfl,fun _=>rfl⟩,⟨rfl,rfl,fun _=>rfl⟩,trivial⟩,⟨⟨rfl,rfl,fun _=>rfl⟩,⟨rfl,rfl,rfl,rfl,fun h=>h⟩,⟨rfl,rfl,rfl,rfl,fun h=>h⟩,trivial⟩,rfl,rfl,rfl,rfl⟩) | (refine hnext5 _ (3,_,_) [] (hs.n01 g1 hb) mlt ?_;exact⟨⟨⟨rfl,rfl,fun _=>rfl⟩,⟨rfl,rfl,fun _=>rfl⟩,⟨rfl,rfl,fun _=>rfl⟩,⟨rfl,rfl,fun _=>rfl⟩,⟨rfl,rfl,fun _=>rfl⟩,⟨rfl,rfl,fun _=>rfl⟩,⟨rfl,rfl,fun _=>rfl⟩,⟨rfl,rfl,fun _=>rfl⟩,⟨rfl,rfl,fun _=>rfl⟩,⟨rfl,rfl,fun _=>rfl⟩,⟨rfl,rfl,fun _=>rfl⟩,trivial⟩,⟨⟨rfl,rfl,fun _=>rfl⟩,⟨rfl,rfl,rfl,rfl,fun h=>h⟩,⟨rfl,rfl,rfl,rfl,fun h=>h⟩,trivial⟩,rfl,rfl,rfl,rfl⟩) | (refine hnext5 _ (3,_,_) [] (hs.n00 g1 hb) mlt ?_;exact⟨⟨⟨rfl,rfl,fun _=>rfl⟩,⟨rfl,rfl,fun _=>rfl⟩,⟨rfl,rfl,fun _=>rfl⟩,⟨rfl,rfl,fun _=>rfl⟩,⟨rfl,rfl,fun _=>rfl⟩,⟨rfl,rfl,fun _=>rfl⟩,⟨rfl,rfl,fun _=>rfl⟩,⟨rfl,rfl,fun _=>rfl⟩,⟨rfl,rfl,fun _=>rfl⟩,⟨rfl,rfl,fun _=>rfl⟩,⟨rfl,rfl,fun _=>rfl⟩,trivial⟩,⟨⟨rfl,rfl,fun _=>rfl⟩,⟨rfl,rfl,rfl,rfl,fun h=>h⟩,⟨rfl,rfl,rfl,rfl,fun h=>h⟩,trivial⟩,rfl,rfl,rfl,rfl⟩)
   ·cbv
    repeat' with_reducible first | (intro hb;cbv) | refine UM ?_ ?_
    apply hexit5
    clear hexit5 hnext5 hret5
    cbv
    refine hnext4 _ (j+1,c',d') [] (atS hJ4.j0 hj.lt hJ5) hj.ms ?_
    have ead:=hj.ad
    subst hA5
    exact⟨⟨⟨rfl,rfl,leI ead⟩,⟨rfl,rfl,fun _=>rfl⟩,⟨rfl,rfl,fun _=>rfl⟩,⟨rfl,rfl,fun _=>rfl⟩,⟨rfl,rfl,fun _=>rfl⟩,⟨rfl,rfl,fun _=>rfl⟩,⟨rfl,rfl,fun _=>rfl⟩,⟨rfl,rfl,fun _=>rfl⟩,⟨rfl,rfl,fun _=>rfl⟩,⟨rfl,rfl,fun _=>rfl⟩,trivial⟩,⟨⟨rfl,rfl,fun _=>rfl⟩,⟨rfl,rfl,rfl,rfl,fun h=>h⟩,⟨rfl,rfl,rfl,rfl,fun h=>h⟩,trivial⟩,rfl,rfl,rfl,rfl⟩
  ·cbv
   repeat' with_reducible first | (intro hb;cbv) | refine UM ?_ ?_
   all_goals first | exact hi.o1 | exact hib | skip
   obtain⟨a,ha⟩: ∃ a,(gtT A3 T i).2.2=a:=⟨_,rfl⟩
   obtain⟨b,hb'⟩: ∃ b,(gtT A3 T i).1=b:=⟨_,rfl⟩
   have ea:(edK (T.getD i.toNat (0,0,0)) 2).1=a:=by subst hA3;exact ha
   have eb:(edK (T.getD i.toNat (0,0,0)) 2).2=b:=by subst hA3;exact hb'
   refine hL3 _ _ _ (gM (un:=⟨false,some [0,1,4,5,6,7,8,9,10,11,12,13,14,15,16,17,18,19,20,21,23,54,68,73,78,82,105,109,133,157,165]⟩) tok ar1 aL 0 (fun i hi=>by have:=hWr i hi;simp at this) (fun q:Int×Int×Int=>⟨[(20,⟨[], .c (.s (.int .i64 q.1))⟩),(19,⟨[], .c (.s (.int .i64 q.2.2))⟩),(18,⟨[], .c (.s (.int .i64 q.2.1))⟩),(17,⟨[], .c (.s (.int .i64 b))⟩),(16,⟨[], .c (.s (.int .i64 a))⟩),(15,⟨[], .c (.s (.lit .i64 2))⟩),(14,⟨[], .c (.s (.int .i64 i))⟩),(13,⟨[], .c (.s (.int .i64 o2))⟩),(11,⟨[], .c (.s (.hp 9 0))⟩),(4,⟨[], .c (.s (.tt false))⟩)],[(9, .fix true [.s (.hs 7), .s (.hs 8), .s .nils]),(7, .vec true .pt p),(8, .vec true .i3 T)],10⟩)
    (fun q=>J3 T a b q.1 q.2.1 q.2.2) (fun q=>((T.length:Int) - q.1).toNat) (0,0,0) (atO T a b) [] ?_ (fun _=>Nat.zero_le _) ?_)
   ·exact⟨⟨⟨rfl,rfl,fun _=>rfl⟩,⟨rfl,rfl,fun _=>rfl⟩,⟨rfl,rfl,fun _=>rfl⟩,⟨rfl,rfl,leI hb'⟩,⟨rfl,rfl,leI ha⟩,⟨rfl,rfl,fun _=>rfl⟩,⟨rfl,rfl,fun _=>rfl⟩,⟨rfl,rfl,fun _=>rfl⟩,⟨rfl,rfl,fun _=>rfl⟩,⟨rfl,rfl,fun _=>rfl⟩,trivial⟩,⟨⟨rfl,rfl,fun _=>rfl⟩,⟨rfl,rfl,rfl,rfl,fun h=>h⟩,⟨rfl,rfl,rfl,rfl,fun h=>h⟩,trivial⟩,rfl,rfl,rfl,rfl⟩
   clear ha hb'
   rintro⟨j,c,d⟩ hJ4 A4 L4 k4 hA4 hL4 hnext4 hexit4 hret4
   have eA:A4=A3:=hA4.trans hA3.symm
   subst eA
   have hJ4:J3 T a b j c d:=hJ4
   rw[← hA4, ← hH, ← hI, ← hP]
   cbv
   repeat' with_reducible first | (intro hb;cbv) | refine UM ?_ ?_
   rotate_left
   ·have he:=atR hJ4 (at4 hA4 hb)
    have kn:=auF Z.f i0 hi.lt (k:=2) (by decide) (by decide)
    have c1:c=1:=by rw[he.1, ← ea, ← eb];exact kn.1
    have hd:d=aoG (aoL T) (edK (T.getD i.toNat (0,0,0)) 2).2 (edK (T.getD i.toNat (0,0,0)) 2).1:=by rw[he.2, ← ea, ← eb]
    subst c1
    have ho:=auE hA4 Z.lt i0 hi.lt hJ3 (by decide) hd (by rw[hd];exact kn.2.1) (by rw[hd];exact kn.2.2)
    clear he kn hb
    apply hexit4
    clear hexit4 hnext4 hret4
    cbv
    repeat' with_reducible first | (intro hb;cbv) | refine UM ?_ ?_
    ·exact absurd (hb.symm.trans ho.bad) (by decide)
    refine hnext3 _ (3,_) [] ho.nx (by show((3:Int) - 3).toNat < ((3:Int) - 2).toNat;decide) ?_
    exact⟨⟨⟨rfl,rfl,fun _=>rfl⟩,⟨rfl,rfl,fun _=>rfl⟩,⟨rfl,rfl,fun _=>rfl⟩,⟨rfl,rfl,fun _=>rfl⟩,⟨rfl,rfl,fun _=>rfl⟩,trivial⟩,⟨⟨rfl,rfl,fun _=>rfl⟩,⟨rfl,rfl,rfl,rfl,fun h=>h⟩,⟨rfl,rfl,rfl,rfl,fun h=>h⟩,trivial⟩,rfl,rfl,rfl,rfl⟩
   have hj:=at5 hA4 Z.lt hJ4.j0 hb
   have hjb:=hb
   clear hb
   refine hL4 _ _ _ (gM (un:=⟨false,some [0,1,4,5,6,7,8,9,10,11,12,13,14,15,16,17,18,19,20,21,23,54,68,73,78,82,105,109,133,157,165]⟩) tok ar1 aL 0 (fun i hi=>by have:=hWr i hi;simp at this) (fun q:Int×Int×Int=>⟨[(21,⟨[], .c (.s (.lit .i64 q.1))⟩),(20,⟨[], .c (.s (.int .i64 j))⟩),(19,⟨[], .c (.s (.int .i64 q.2.2))⟩),(18,⟨[], .c (.s (.int .i64 q.2.1))⟩),(17,⟨[], .c (.s (.int .i64 b))⟩),(16,⟨[], .c (.s (.int .i64 a))⟩),(15,⟨[], .c (.s (.lit .i64 2))⟩),(14,⟨[], .c (.s (.int .i64 i))⟩),(13,⟨[], .c (.s (.int .i64 o2))⟩),(11,⟨[], .c (.s (.hp 9 0))⟩),(4,⟨[], .c (.s (.tt false))⟩)],[(9, .fix true [.s (.hs 7), .s (.hs 8), .s .nils]),(7, .vec true .pt p),(8, .vec true .i3 T)],10⟩)
    (fun q=>J4 T a b j q.1 q.2.1 q.2.2) (fun q=>(3 - q.1).toNat) (0,c,d) (atP hJ4) [] ?_ (fun _=>Nat.zero_le _) ?_)
   ·exact⟨⟨⟨rfl,rfl,fun _=>rfl⟩,⟨rfl,rfl,fun _=>rfl⟩,⟨rfl,rfl,fun _=>rfl⟩,⟨rfl,rfl,fun _=>rfl⟩,⟨rfl,rfl,fun _=>rfl⟩,⟨rfl,rfl,fun _=>rfl⟩,⟨rfl,rfl,fun _=>rfl⟩,⟨rfl,rfl,fun _=>rfl⟩,⟨rfl,rfl,fun _=>rfl⟩,⟨rfl,rfl,fun _=>rfl⟩,⟨rfl,rfl,fun _=>rfl⟩,trivial⟩,⟨⟨rfl,rfl,fun _=>rfl⟩,⟨rfl,rfl,rfl,rfl,fun h=>h⟩,⟨rfl,rfl,rfl,rfl,fun h=>h⟩,trivial⟩,rfl,rfl,rfl,rfl⟩
   rintro⟨y,c',d'⟩ hJ5 A5 L5 k5 hA5 hL5 hnext5 hexit5 hret5
   have eA:A5=A4:=hA5.trans hA4.symm
   subst eA
   have hJ5:J4 T a b j y c' d':=hJ5
   rw[← hA5, ← hH, ← hI, ← hP]
   rcases h3 hJ5.h0 hJ5.h1 with rfl | rfl | rfl | rfl
   ·have hs:=atT hA5 Z.lt hJ5 (by decide) (x:=(gtT A5 T j).1) (y:=(gtT A5 T j).2.1) (by subst hA5;rfl) (by subst hA5;rfl)
    have mlt:((3:Int) - 1).toNat < ((3:Int) - 0).toNat:=by decide
    with_reducible refine fA fun kk hn hx=>?_
    cbv
    with_reducible refine hn _ ?_
    clear hn hx kk
    with_reducible refine fA fun k7 hn7 hx7=>?_
    with_reducible refine ZM fun k8 n8 e8 x8 r8=>?_
    with_reducible refine fA fun kk hn hx=>?_
    cbv
    repeat' with_reducible first | (intro hb;cbv) | refine UM ?_ ?_
    all_goals first | (with_reducible refine sV hA5 ?_;first | exact hj.o1 | exact hjb) | exact hj.o1 | exact hjb | skip
    all_goals
     with_reducible refine hn _ ?_
     clear hn hx kk
     have g1:=hb
     clear hb
     cbv
     repeat' with_reducible first | (intro hb;cbv) | refine UM ?_ ?_
     all_goals first | (with_reducible refine sV hA5 ?_;first | exact hj.o1 | exact hjb) | exact hj.o1 | exact hjb | skip
     all_goals
      refine n8 _ ?_
      refine hn7 _ ?_
      clear n8 e8 x8 r8 hn7 hx7
      cbv
      first | (refine hnext5 _ (1,_,_) [] (hs.n11 g1 hb) mlt ?_;exact⟨⟨⟨rfl,rfl,fun _=>rfl⟩,⟨rfl,rfl,fun _=>rfl⟩,⟨rfl,rfl,fun _=>rfl⟩,⟨rfl,rfl,fun _=>rfl⟩,⟨rfl,rfl,fun _=>rfl⟩,⟨rfl,rfl,fun _=>rfl⟩,⟨rfl,rfl,fun _=>rfl⟩,⟨rfl,rfl,fun _=>rfl⟩,⟨rfl,rfl,fun _=>rfl⟩,⟨rfl,rfl,fun _=>rfl⟩,⟨rfl,rfl,fun _=>rfl⟩,trivial⟩,⟨⟨rfl,rfl,fun _=>rfl⟩,⟨rfl,rfl,rfl,rfl,fun h=>h⟩,⟨rfl,rfl,rfl,rfl,fun h=>h⟩,trivial⟩,rfl,rfl,rfl,rfl⟩) | (refine hnext5 _ (1,_,_) [] (hs.n10 g1 hb) mlt ?_;exact⟨⟨⟨rfl,rfl,fun _=>rfl⟩,⟨rfl,rfl,fun _=>rfl⟩,⟨rfl,rfl,fun _=>rfl⟩,⟨rfl,rfl,fun _=>rfl⟩,⟨rfl,rfl,fun _=>rfl⟩,⟨rfl,rfl,fun _=>rfl⟩,⟨rfl,rfl,fun _=>rfl⟩,⟨rfl,rfl,fun _=>rfl⟩,⟨rfl,rfl,fun _=>rfl⟩,⟨rfl,rfl,fun _=>rfl⟩,⟨rfl,rfl,fun _=>rfl⟩,trivial⟩,⟨⟨rfl,rfl,fun _=>rfl⟩,⟨rfl,rfl,rfl,rfl,fun h=>h⟩,⟨rfl,rfl,rfl,rfl,fun h=>h⟩,trivial⟩,rfl,rfl,rfl,rfl⟩) | (refine hnext5 _ (1,_,_) [] (hs.n01 g1 hb) mlt ?_;exact⟨⟨⟨rfl,rfl,fun _=>rfl⟩,⟨rfl,rfl,fun _=>rfl⟩,⟨rfl,rfl,fun _=>rfl⟩,⟨rfl,rfl,fun _=>rfl⟩,⟨rfl,rfl,fun _=>rfl⟩,⟨rfl,rfl,fun _=>rfl⟩,⟨rfl,rfl,fun _=>rfl⟩,⟨rfl,rfl,fun _=>rfl⟩,⟨rfl,rfl,fun _=>rfl⟩,⟨rfl,rfl,fun _=>rfl⟩,⟨rfl,rfl,fun _=>rfl⟩,trivial⟩,⟨⟨rfl,rfl,fun _=>rfl⟩,⟨rfl,rfl,rfl,rfl,fun h=>h⟩,⟨rfl,rfl,rfl,rfl,fun h=>h⟩,trivial⟩,rfl,rfl,rfl,rfl⟩) | (refine hnext5 _ (1,_,_) [] (hs.n00 g1 hb) mlt ?_;exact⟨⟨⟨rfl,rfl,fun _=>rfl⟩,⟨rfl,rfl,fun _=>rfl⟩,⟨rfl,rfl,fun _=>rfl⟩,⟨rfl,rfl,fun _=>rfl⟩,⟨rfl,rfl,fun _=>rfl⟩,⟨rfl,rfl,fun _=>rfl⟩,⟨rfl,rfl,fun _=>rfl⟩,⟨rfl,rfl,fun _=>rfl⟩,⟨rfl,rfl,fun _=>rfl⟩,⟨rfl,rfl,fun _=>rfl⟩,⟨rfl,rfl,fun _=>rfl⟩,trivial⟩,⟨⟨rfl,rfl,fun _=>rfl⟩,⟨rfl,rfl,rfl,rfl,fun h=>h⟩,⟨rfl,rfl,rfl,rfl,fun h=>h⟩,trivial⟩,rfl,rfl,rfl,rfl⟩)
   ·have hs:=atT hA5 Z.lt hJ5 (by decide) (x:=(gtT A5 T j).2.1) (y:=(gtT A5 T j).2.2) (by subst hA5;rfl) (by subst hA5;rfl)
    have mlt:((3:Int) - 2).toNat < ((3:Int) - 1).toNat:=by decide
    with_reducible refine fA fun kk hn hx=>?_
    cbv
    with_reducible refine hn _ ?_
    clear hn hx kk
    with_reducible refine fA fun k7 hn7 hx7=>?_
    with_reducible refine ZM fun k8 n8 e8 x8 r8=>?_
    with_reducible refine fA fun kk hn hx=>?_
    cbv
    repeat' with_reducible first | (intro hb;cbv) | refine UM ?_ ?_
    all_goals first | (with_reducible refine sV hA5 ?_;first | exact hj.o1 | exact hjb) | exact hj.o1 | exact hjb | skip
    all_goals
     with_reducible refine hn _ ?_
     clear hn hx kk
     have g1:=hb
     clear hb
     cbv
     repeat' with_reducible first | (intro hb;cbv) | refine UM ?_ ?_
     all_goals first | (with_reducible refine sV hA5 ?_;first | exact hj.o1 | exact hjb) | exact hj.o1 | exact hjb | skip
     all_goals
      refine n8 _ ?_
      refine hn7 _ ?_
      clear n8 e8 x8 r8 hn7 hx7
      cbv
      first | (refine hnext5 _ (2,_,_) [] (hs.n11 g1 hb) mlt ?_;exact⟨⟨⟨rfl,rfl,fun _=>rfl⟩,⟨rfl,rfl,fun _=>rfl⟩,⟨rfl,rfl,fun _=>rfl⟩,⟨rfl,rfl,fun _=>rfl⟩,⟨rfl,rfl,fun _=>rfl⟩,⟨rfl,rfl,fun _=>rfl⟩,⟨rfl,rfl,fun _=>rfl⟩,⟨rfl,rfl,fun _=>rfl⟩,⟨rfl,rfl,fun _=>rfl⟩,⟨rfl,rfl,fun _=>rfl⟩,⟨rfl,rfl,fun _=>rfl⟩,trivial⟩,⟨⟨rfl,rfl,fun _=>rfl⟩,⟨rfl,rfl,rfl,rfl,fun h=>h⟩,⟨rfl,rfl,rfl,rfl,fun h=>h⟩,trivial⟩,rfl,rfl,rfl,rfl⟩) | (refine hnext5 _ (2,_,_) [] (hs.n10 g1 hb) mlt ?_;exact⟨⟨⟨rfl,rfl,fun _=>rfl⟩,⟨rfl,rfl,fun _=>rfl⟩,⟨rfl,rfl,fun _=>rfl⟩,⟨rfl,rfl,fun _=>rfl⟩,⟨rfl,rfl,fun _=>rfl⟩,⟨rfl,rfl,fun _=>rfl⟩,⟨rfl,rfl,fun _=>rfl⟩,⟨rfl,rfl,fun _=>rfl⟩,⟨rfl,rfl,fun _=>rfl⟩,⟨rfl,rfl,fun _=>rfl⟩,⟨rfl,rfl,fun _=>rfl⟩,trivial⟩,⟨⟨rfl,rfl,fun _=>rfl⟩,⟨rfl,rfl,rfl,rfl,fun h=>h⟩,⟨rfl,rfl,rfl,rfl,fun h=>h⟩,trivial⟩,rfl,rfl,rfl,rfl⟩) | (refine hnext5 _ (2,_,_) [] (hs.n01 g1 hb) mlt ?_;exact⟨⟨⟨rfl,rfl,fun _=>rfl⟩,⟨rfl,rfl,fun _=>rfl⟩,⟨rfl,rfl,fun _=>rfl⟩,⟨rfl,rfl,fun _=>rfl⟩,⟨rfl,rfl,fun _=>rfl⟩,⟨rfl,rfl,fun _=>rfl⟩,⟨rfl,rfl,fun _=>rfl⟩,⟨rfl,rfl,fun _=>rfl⟩,⟨rfl,rfl,fun _=>rfl⟩,⟨rfl,rfl,fun _=>rfl⟩,⟨rfl,rfl,fun _=>rfl⟩,trivial⟩,⟨⟨rfl,rfl,fun _=>rfl⟩,⟨rfl,rfl,rfl,rfl,fun h=>h⟩,⟨rfl,rfl,rfl,rfl,fun h=>h⟩,trivial⟩,rfl,rfl,rfl,rfl⟩) | (refine hnext5 _ (2,_,_) [] (hs.n00 g1 hb) mlt ?_;exact⟨⟨⟨rfl,rfl,fun _=>rfl⟩,⟨rfl,rfl,fun _=>rfl⟩,⟨rfl,rfl,fun _=>rfl⟩,⟨rfl,rfl,fun _=>rfl⟩,⟨rfl,rfl,fun _=>rfl⟩,⟨rfl,rfl,fun _=>rfl⟩,⟨rfl,rfl,fun _=>rfl⟩,⟨rfl,rfl,fun _=>rfl⟩,⟨rfl,rfl,fun _=>rfl⟩,⟨rfl,rfl,fun _=>rfl⟩,⟨rfl,rfl,fun _=>rfl⟩,trivial⟩,⟨⟨rfl,rfl,fun _=>rfl⟩,⟨rfl,rfl,rfl,rfl,fun h=>h⟩,⟨rfl,rfl,rfl,rfl,fun h=>h⟩,trivial⟩,rfl,rfl,rfl,rfl⟩)
   ·have hs:=atT hA5 Z.lt hJ5 (by decide) (x:=(gtT A5 T j).2.2) (y:=(gtT A5 T j).1) (by subst hA5;rfl) (by subst hA5;rfl)
    have mlt:((3:Int) - 3).toNat < ((3:Int) - 2).toNat:=by decide
    with_reducible refine fA fun kk hn hx=>?_
    cbv
    with_reducible refine hn _ ?_
    clear hn hx kk
    with_reducible refine fA fun k7 hn7 hx7=>?_
    with_reducible refine ZM fun k8 n8 e8 x8 r8=>?_
    with_reducible refine fA fun kk hn hx=>?_
    cbv
    repeat' with_reducible first | (intro hb;cbv) | refine UM ?_ ?_
    all_goals first | (with_reducible refine sV hA5 ?_;first | exact hj.o1 | exact hjb) | exact hj.o1 | exact hjb | skip
    all_goals
     with_reducible refine hn _ ?_
     clear hn hx kk
     have g1:=hb
     clear hb
     cbv
     repeat' with_reducible first | (intro hb;cbv) | refine UM ?_ ?_
     all_goals first | (with_reducible refine sV hA5 ?_;first | exact hj.o1 | exact hjb) | exact hj.o1 | exact hjb | skip
     all_goals
      refine n8 _ ?_
      refine hn7 _ ?_
      clear n8 e8 x8 r8 hn7 hx7
      cbv
      first | (refine hnext5 _ (3,_,_) [] (hs.n11 g1 hb) mlt ?_;exact⟨⟨⟨rfl,rfl,fun _=>rfl⟩,⟨rfl,rfl,fun _=>rfl⟩,⟨rfl,rfl,fun _=>rfl⟩,⟨rfl,rfl,fun _=>rfl⟩,⟨rfl,rfl,fun _=>rfl⟩,⟨rfl,rfl,fun _=>rfl⟩,⟨rfl,rfl,fun _=>rfl⟩,⟨rfl,rfl,fun _=>rfl⟩,⟨rfl,rfl,fun _=>rfl⟩,⟨rfl,rfl,fun _=>rfl⟩,⟨rfl,rfl,fun _=>rfl⟩,trivial⟩,⟨⟨rfl,rfl,fun _=>rfl⟩,⟨rfl,rfl,rfl,rfl,fun h=>h⟩,⟨rfl,rfl,rfl,rfl,fun h=>h⟩,trivial⟩,rfl,rfl,rfl,rfl⟩) | (refine hnext5 _ (3,_,_) [] (hs.n10 g1 hb) mlt ?_;exact⟨⟨⟨rfl,rfl,fun _=>rfl⟩,⟨rfl,rfl,fun _=>rfl⟩,⟨rfl,rfl,fun _=>rfl⟩,⟨rfl,rfl,fun _=>rfl⟩,⟨rfl,rfl,fun _=>rfl⟩,⟨rfl,rfl,fun _=>rfl⟩,⟨rfl,rfl,fun _=>rfl⟩,⟨rfl,rfl,fun _=>rfl⟩,⟨rfl,rfl,fun _=>rfl⟩,⟨rfl,rfl,fun _=>rfl⟩,⟨rfl,rfl,fun _=>rfl⟩,trivial⟩,⟨⟨rfl,rfl,fun _=>rfl⟩,⟨rfl,rfl,rfl,rfl,fun h=>h⟩,⟨rfl,rfl,rfl,rfl,fun h=>h⟩,trivial⟩,rfl,rfl,rfl,rfl⟩) | (refine hnext5 _ (3,_,_) [] (hs.n01 g1 hb) mlt ?_;exact⟨⟨⟨rfl,rfl,fun _=>rfl⟩,⟨rfl,rfl,fun _=>rfl⟩,⟨rfl,rfl,fun _=>rfl⟩,⟨rfl,rfl,fun _=>rfl⟩,⟨rfl,rfl,fun _=>rfl⟩,⟨rfl,rfl,fun _=>rfl⟩,⟨rfl,rfl,fun _=>rfl⟩,⟨rfl,rfl,fun _=>rfl⟩,⟨rfl,rfl,fun _=>rfl⟩,⟨rfl,rfl,fun _=>rfl⟩,⟨rfl,rfl,fun _=>rfl⟩,trivial⟩,⟨⟨rfl,rfl,fun _=>rfl⟩,⟨rfl,rfl,rfl,rfl,fun h=>h⟩,⟨rfl,rfl,rfl,rfl,fun h=>h⟩,trivial⟩,rfl,rfl,rfl,rfl⟩) | (refine hnext5 _ (3,_,_) [] (hs.n00 g1 hb) mlt ?_;exact⟨⟨⟨rfl,rfl,fun _=>rfl⟩,⟨rfl,rfl,fun _=>rfl⟩,⟨rfl,rfl,fun _=>rfl⟩,⟨rfl,rfl,fun _=>rfl⟩,⟨rfl,rfl,fun _=>rfl⟩,⟨rfl,rfl,fun _=>rfl⟩,⟨rfl,rfl,fun _=>rfl⟩,⟨rfl,rfl,fun _=>rfl⟩,⟨rfl,rfl,fun _=>rfl⟩,⟨rfl,rfl,fun _=>rfl⟩,⟨rfl,rfl,fun _=>rfl⟩,trivial⟩,⟨⟨rfl,rfl,fun _=>rfl⟩,⟨rfl,rfl,rfl,rfl,fun h=>h⟩,⟨rfl,rfl,rfl,rfl,fun h=>h⟩,trivial⟩,rfl,rfl,rfl,rfl⟩)
   ·cbv
    repeat' with_reducible first | (intro hb;cbv) | refine UM ?_ ?_
    apply hexit5
    clear hexit5 hnext5 hret5
    cbv
    refine hnext4 _ (j+1,c',d') [] (atS hJ4.j0 hj.lt hJ5) hj.ms ?_
    have ead:=hj.ad
    subst hA5
    exact⟨⟨⟨rfl,rfl,leI ead⟩,⟨rfl,rfl,fun _=>rfl⟩,⟨rfl,rfl,fun _=>rfl⟩,⟨rfl,rfl,fun _=>rfl⟩,⟨rfl,rfl,fun _=>rfl⟩,⟨rfl,rfl,fun _=>rfl⟩,⟨rfl,rfl,fun _=>rfl⟩,⟨rfl,rfl,fun _=>rfl⟩,⟨rfl,rfl,fun _=>rfl⟩,⟨rfl,rfl,fun _=>rfl⟩,trivial⟩,⟨⟨rfl,rfl,fun _=>rfl⟩,⟨rfl,rfl,rfl,rfl,fun h=>h⟩,⟨rfl,rfl,rfl,rfl,fun h=>h⟩,trivial⟩,rfl,rfl,rfl,rfl⟩
  ·cbv
   repeat' with_reducible first | (intro hb;cbv) | refine UM ?_ ?_
   apply hexit3
   clear hexit3 hnext3 hret3
   cbv
   refine hnext _ (i+1,o2) [] (at7 i0 hi.lt hJ3) hi.ms ?_
   have ead:=hi.ad
   subst hA3
   exact⟨⟨⟨rfl,rfl,leI ead⟩,⟨rfl,rfl,fun _=>rfl⟩,⟨rfl,rfl,fun _=>rfl⟩,⟨rfl,rfl,fun _=>rfl⟩,trivial⟩,⟨⟨rfl,rfl,fun _=>rfl⟩,⟨rfl,rfl,rfl,rfl,fun h=>h⟩,⟨rfl,rfl,rfl,rfl,fun h=>h⟩,trivial⟩,rfl,rfl,rfl,rfl⟩
end Go.Eng
