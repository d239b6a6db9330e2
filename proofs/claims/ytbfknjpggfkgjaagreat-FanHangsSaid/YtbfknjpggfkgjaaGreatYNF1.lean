
import Derived.Test.YtbfknjpggfkgjaaGreatYNAA
import Derived.Test.YtbfknjpggfkgjaaGreatYCE2
import Derived.Test.YtbfknjpggfkgjaaGreatYCRB
import Derived.Test.YtbfknjpggfkgjaaGreatYCH6
import Derived.Test.YtbfknjpggfkgjaaGreatSpecR1
set_option linter.all false
set_option exponentiation.threshold 3000
set_option maxRecDepth 100000
set_option maxHeartbeats 2000000
namespace Go.Eng
open Go.Proofs
def aqG (P:SNd):List CV→List Blk→Option LR
 | [.g [.s (.int .i64 a), .s (.int .i64 b), .s (.int .i64 c)], .g [.s (.int .i64 d), .s (.int .i64 e), .s (.int .i64 f)]],[]=>some ⟨[], .c (.s (.int .i64 (P.cmp3 (a,b,c) (d,e,f)))),[]⟩
 | _,_=>none
theorem apK (A:Alg) (C:SC) (hC:C=UT) (P:SNd) (hP:P=dT) (a b c d e f:Int):C.nz [C.sgn a d,C.sgn b e,C.sgn c f]=P.cmp3 (a,b,c) (d,e,f):=by
 subst hC hP
 have h: ∀ x y z:Int,Wt [x,y,z]=if x≠0 then x else if y≠0 then y else z:=fun x y z=>by
  simp only[Wt]
  repeat' split
  all_goals first | rfl | (exfalso;omega) | omega
 exact h _ _ _
theorem asZ {A:Alg} (hA:A=aA) (x y z:Int):A.cmp .lss (A.len [x,y,z]) 1000000=true:=by
 subst hA
 exact bH _ rfl _ _ (by show(3:Int) < 1000000;decide)
def nF0 (A:Alg) (C:SC):List (Nat×bU):=(88,aC [.v, .v] A (amU C)) :: (87,aC [.s (.int .i64)] A (gOr A C)) :: ([])
theorem ar2:COK Tryz.prog (aN (nF0 aA UT)):=aB am1 (aB asD (bC))
theorem aoS:aJ Tryz.prog 50 (aC [.v, .v] aA (aqG dT)):=by
 refine aH (un:=⟨false,some [0,1,2,3,4]⟩) tok ar2 aL (fn:=Tryz.f50) ?_
 intro w Wr args bs r hg ho hWr A L k hA hL hk
 obtain⟨C,hC⟩:=exE UT
 obtain⟨P,hP⟩:=exE dT
 try rw[← hC]
 try rw[← hP]
 try rw[← hA]
 unfold aqG at hg
 split at hg <;> cases hg
 rename_i a b c d e f
 have f1:=apK A C hC P hP a b c d e f
 cbv
 repeat' with_reducible first | (intro hb;cbv) | refine UM ?_ ?_
 ·exact asZ hA _ _ _
 exact hk _ _ (bE.pure rfl fun ρ=>by subst hP;exact congrArg (Value.int .i64) f1)
def amQ:Go.Shelf.Ren:=⟨fun | 6=>49 | 15=>86 | 14=>85 | 28=>137 | 29=>138 | 20=>129 | 21=>130 | 22=>131 | 23=>132 | 24=>133 | 25=>134 | 26=>135 | 27=>136 | 46=>175 | 47=>176 | 48=>177 | 49=>178 | 50=>179 | 57=>202 | n=>n,fun | 22=>54 | 24=>70 | 25=>104 | 3=>3 | 39=>142 | 0=>0 | 53=>41 | 55=>147 | 4=>4 | 46=>191 | 45=>190 | 50=>76 | 5=>5 | 9=>9 | 66=>224 | 70=>228 | 76=>247 | 77=>125 | n=>n,fun n=>n⟩
theorem ap3:SlLaysF0.n6 Tryz.prog amQ:=⟨by kernel_rfl,
 ⟨Tryz.f49.name,by kernel_rfl,Tryz.func49.trans (congrArg some (by kernel_rfl))⟩,
 ⟨Tryz.f85.name,by kernel_rfl,Tryz.func85.trans (congrArg some (by kernel_rfl))⟩,
 Tryz.func86.trans (congrArg some (by kernel_rfl)),
 ⟨Tryz.f129.name,by kernel_rfl,Tryz.func129.trans (congrArg some (by kernel_rfl))⟩,
 ⟨Tryz.f130.name,by kernel_rfl,Tryz.func130.trans (congrArg some (by kernel_rfl))⟩,
 ⟨Tryz.f131.name,by kernel_rfl,Tryz.func131.trans (congrArg some (by kernel_rfl))⟩,
 ⟨Tryz.f132.name,by kernel_rfl,Tryz.func132.trans (congrArg some (by kernel_rfl))⟩,
 ⟨Tryz.f133.name,by kernel_rfl,Tryz.func133.trans (congrArg some (by kernel_rfl))⟩,
 ⟨Tryz.f134.name,by kernel_rfl,Tryz.func134.trans (congrArg some (by kernel_rfl))⟩,
 ⟨Tryz.f135.name,by kernel_rfl,Tryz.func135.trans (congrArg some (by kernel_rfl))⟩,
 ⟨Tryz.f136.name,by kernel_rfl,Tryz.func136.trans (congrArg some (by kernel_rfl))⟩,
 Tryz.func137.trans (congrArg some (by kernel_rfl)),
 Tryz.func138.trans (congrArg some (by kernel_rfl)),
 ⟨Tryz.f175.name,by kernel_rfl,Tryz.func175.trans (congrArg some (by kernel_rfl))⟩,
 Tryz.func176.trans (congrArg some (by kernel_rfl)),
 Tryz.func177.trans (congrArg some (by kernel_rfl)),
 ⟨Tryz.f178.name,by kernel_rfl,Tryz.func178.trans (congrArg some (by kernel_rfl))⟩,
 ⟨Tryz.f179.name,by kernel_rfl,Tryz.func179.trans (congrArg some (by kernel_rfl))⟩,
 ⟨Tryz.f202.name,by kernel_rfl,Tryz.func202.trans (congrArg some (by kernel_rfl))⟩,
 Tryz.underlying0,
 Tryz.isAgg0,
 Tryz.sizeOf0,
 Tryz.zeroValue0,
 Tryz.underlying3,
 Tryz.isAgg3,
 Tryz.sizeOf3,
 Tryz.zeroValue3,
 Tryz.underlying4,
 Tryz.isAgg4,
 Tryz.sizeOf4,
 Tryz.zeroValue4,
 Tryz.underlying5,
 Tryz.isAgg5,
 Tryz.sizeOf5,
 Tryz.zeroValue5,
 Tryz.underlying9,
 Tryz.isAgg9,
 Tryz.sizeOf9,
 Tryz.zeroValue9,
 Tryz.underlying54,
 Tryz.isAgg54,
 Tryz.sizeOf54,
 Tryz.zeroValue54,
 Tryz.underlying104,
 Tryz.isAgg104,
 Tryz.sizeOf104,
 Tryz.zeroValue104,
 Tryz.underlying142,
 Tryz.isAgg142,
 Tryz.sizeOf142,
 Tryz.zeroValue142,
 Tryz.underlying190,
 Tryz.isAgg190,
 Tryz.sizeOf190,
 Tryz.zeroValue190,
 Tryz.underlying191,
 Tryz.isAgg191,
 Tryz.sizeOf191,
 Tryz.zeroValue191,
 Tryz.underlying76,
 Tryz.isAgg76,
 Tryz.sizeOf76,
 Tryz.zeroValue76,
 Tryz.underlying41,
 Tryz.isAgg41,
 Tryz.sizeOf41,
 Tryz.zeroValue41,
 Tryz.underlying147,
 Tryz.isAgg147,
 Tryz.sizeOf147,
 Tryz.zeroValue147,
 Tryz.underlying224,
 Tryz.isAgg224,
 Tryz.sizeOf224,
 Tryz.zeroValue224,
 Tryz.underlying228,
 Tryz.isAgg228,
 Tryz.sizeOf228,
 Tryz.zeroValue228,
 Tryz.underlying247,
 Tryz.isAgg247,
 Tryz.sizeOf247,
 Tryz.zeroValue247,
 Tryz.underlying125,
 Tryz.isAgg125,
 Tryz.sizeOf125,
 Tryz.zeroValue125⟩
theorem aoA: ∀ w,(isAgg (amQ.t 24)).run Tryz.prog w= .ok true w:=Tryz.isAgg70
theorem aoB: ∀ w,(Go.sizeOf (amQ.t 24)).run Tryz.prog w= .ok 3 w:=Tryz.sizeOf70
def apQ (A:Alg) (P:SNd):Blk→Option (List Bool×Blk)
 | .vec true .i3 l=>some ([A.cmp .lss (A.len l) 1000000], .vec true .i3 (P.srt3 l))
 | _=>none
theorem an9:aJ Tryz.prog 49 (aiW 50 (apQ aA dT)):=
 ai2 ap3 .i3 aoA aoB (fun _=>true) (0,0,0) rfl cmp3 arA arB 50 _ aoS (fun x y _ _=>⟨[],rfl,fun b hb=>by cases hb⟩) _ (fun b ob b' h=>by
  unfold apQ at h
  split at h
  ·rename_i l
   simp only[Option.some.injEq,Prod.mk.injEq] at h
   obtain⟨rfl,rfl⟩:=h
   refine⟨l,rfl,rfl,fun ho=>⟨fun x hx=>rfl,?_⟩⟩
   have h:=akR (ho _ (List.mem_cons_self ..))
   omega
  ·cases h)
def apR (P:SNd):List CV→List Blk→Option LR
 | [.s (.int .i64 a), .s (.int .i64 b), .s (.int .i64 c)],[]=>some ⟨[], .c (.g [.s (.int .i64 (P.turned a b c).1), .s (.int .i64 (P.turned a b c).2.1), .s (.int .i64 (P.turned a b c).2.2)]),[]⟩
 | _,_=>none
theorem arC (A:Alg) (hA:A=aA) (P:SNd) (hP:P=dT) (a b c:Int):(A.cmp .eql (A.mn (A.mn a b) c) a=true→P.turned a b c=(a,b,c))∧(A.cmp .eql (A.mn (A.mn a b) c) a=false→A.cmp .eql (A.mn (A.mn a b) c) b=true→P.turned a b c=(b,c,a))∧(A.cmp .eql (A.mn (A.mn a b) c) a=false→A.cmp .eql (A.mn (A.mn a b) c) b=false→P.turned a b c=(c,a,b)):=by
 subst hA hP
 have e:dT.turned a b c=anB a b c:=rfl
 have mm: ∀ x y:Int,aA.mn x y=min x y:=fun x y=>by
  show(if y < x then y else x)=_
  rw[Int.min_def]
  split <;> split <;> omega
 have m:aA.mn (aA.mn a b) c=min (min a b) c:=by rw[mm,mm]
 have q: ∀ x y:Int,aA.cmp .eql x y=(x == y):=fun _ _=>rfl
 rw[e,m,q,q]
 unfold anB
 refine⟨fun h=>?_,fun h h2=>?_,fun h h2=>?_⟩
 ·rw[if_pos (by simpa using h)]
 ·rw[if_neg (by simpa using h),if_pos (by simpa using h2)]
 ·rw[if_neg (by simpa using h),if_neg (by simpa using h2)]
theorem aoT:aJ Tryz.prog 47 (aC [.v, .v, .v] aA (apR dT)):=by
 refine aH (un:=⟨false,some [0,1,2,6,10,11,18]⟩) tok nF aL (fn:=Tryz.f47) ?_
 intro w Wr args bs r hg ho hWr A L k hA hL hk
 obtain⟨P,hP⟩:=exE dT
 try rw[← hP]
 try rw[← hA]
 unfold apR at hg
 split at hg <;> cases hg
 rename_i a b c
 have f:=arC A hA P hP a b c
 cbv
 repeat' with_reducible first | (intro hb;cbv) | refine UM ?_ ?_
 all_goals skip
 ·have e:=f.1 hb
  subst hP
  exact hk _ _ (bE.pure rfl fun ρ=>by rw[e];rfl)
 ·have e:=f.2.1 (by assumption) hb
  subst hP
  exact hk _ _ (bE.pure rfl fun ρ=>by rw[e];rfl)
 ·have e:=f.2.2 (by assumption) hb
  subst hP
  exact hk _ _ (bE.pure rfl fun ρ=>by rw[e];rfl)
def arU (P:SNd):List CV→List Blk→Option LR
 | [.g [.P u, .P v, .P w]],[]=>some ⟨[], .t [.g [.P (P.mid u v w)], .s (.bool (P.midOK u v w))],[]⟩
 | _,_=>none
theorem aoK (A:Alg) (hA:A=aA) (I:SP) (hI:I=f7) (u v w:Pt):A.cmp .lss (A.len (I.cor u v w)) 1000000=true:=by
 subst hA hI
 have h:(ZX u v w).length≤4:=by
  unfold ZX afA
  simp only[List.length_append]
  repeat' split
  all_goals simp
 exact bH _ rfl _ _ (by show((ZX u v w).length:Int) < 1000000;omega)
def nF1 (A:Alg) (I:SP) (H:SH):List (Nat×bU):=(78,aR [.a .v] A (ac0 I)) :: (77,aC [.s .pt] A (PW A H)) :: ([])
theorem ar3:COK Tryz.prog (aN (nF1 aA f7 bD)):=aB aeA (aB Kp (bC))
theorem apZ:aJ Tryz.prog 42 (aC [.v] aA (arU dT)):=by
 refine aH (un:=⟨false,some [0,1,2,3]⟩) tok ar3 aL (fn:=Tryz.f42) ?_
 intro w Wr args bs r hg ho hWr A L k hA hL hk
 obtain⟨H,hH⟩:=exE bD
 obtain⟨I,hI⟩:=exE f7
 obtain⟨P,hP⟩:=exE dT
 try rw[← hH]
 try rw[← hI]
 try rw[← hP]
 try rw[← hA]
 unfold arU at hg
 split at hg <;> cases hg
 rename_i u v w
 have f:=aoK A hA I hI u v w
 cbv
 repeat' with_reducible first | (intro hb;cbv) | refine UM ?_ ?_
 all_goals first | exact f | skip
 subst hP hI hH
 exact hk _ _ (bE.pure rfl fun ρ=>rfl)
end Go.Eng
