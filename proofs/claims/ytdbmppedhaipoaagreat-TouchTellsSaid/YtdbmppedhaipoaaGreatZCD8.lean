
import Derived.Test.YtdbmppedhaipoaaGreatZCD4
import Derived.Test.YtdbmppedhaipoaaGreatZCD5
import Derived.Test.YtdbmppedhaipoaaGreatZCD6
import Derived.Test.YtdbmppedhaipoaaGreatZCD7
set_option linter.all false
set_option exponentiation.threshold 3000
set_option maxRecDepth 100000
set_option maxHeartbeats 2000000
namespace Go.Eng
open Go.Proofs
def uI (U:SU):List CV→List Blk→Option LW
 | [.g [.s (.hs 0), .s (.hs 1), .s (.hs 2)]],[.vec false .i3 V, .vec false .i3 S, .vec false .pt l]=>some ⟨[U.inb V], .c (.s (.int .i64 (U.check V S l))),[],[]⟩
 | _,_=>none
theorem uF {V S:List (Int×Int×Int)} {l:List Pt} (h:iO V S l=true):aY V < 1000∧aY S < 1000∧aY l < 1000:=by
 unfold iO at h
 simp only[Bool.and_eq_true,Bool.not_eq_true'] at h
 have h0:=h.1
 unfold pB at h0
 simp only[Bool.or_eq_false_iff,decide_eq_false_iff_not] at h0
 omega
structure CkF (A:Alg) (U:SU) (V S:List (Int×Int×Int)) (l:List Pt):Prop where
 c1:A.not (U.form V S l)=true→10=U.check V S l
 f:A.not (U.form V S l)=false→U.form V S l=true
 lv:A.not (U.form V S l)=false→A.cmp .lss (A.len V) 1000000=true
 ls:A.not (U.form V S l)=false→A.cmp .lss (A.len S) 1000000=true
 ll:A.not (U.form V S l)=false→A.cmp .lss (A.len l) 1000000=true
 c2:A.not (U.form V S l)=false→A.not (U.bound V)=true→13=U.check V S l
 c3:A.not (U.form V S l)=false→A.not (U.bound V)=false→U.twin V=true→14=U.check V S l
 c4:A.not (U.form V S l)=false→A.not (U.bound V)=false→U.twin V=false→A.not (U.looped V S)=true→15=U.check V S l
 c5:A.not (U.form V S l)=false→A.not (U.bound V)=false→U.twin V=false→A.not (U.looped V S)=false→U.crossed V S=true→16=U.check V S l
 c6:A.not (U.form V S l)=false→A.not (U.bound V)=false→U.twin V=false→A.not (U.looped V S)=false→U.crossed V S=false→U.anyH V S l=true→17=U.check V S l
 c7:A.not (U.form V S l)=false→A.not (U.bound V)=false→U.twin V=false→A.not (U.looped V S)=false→U.crossed V S=false→U.anyH V S l=false→0=U.check V S l
theorem Sy (A:Alg) (hA:A=aA) (U:SU) (hU:U=bN) (V S:List (Int×Int×Int)) (l:List Pt):CkF A U V S l:=by
 subst hA hU
 have e:bN.check V S l=if !bN.form V S l then 10 else if !bN.bound V then 13 else if bN.twin V then 14 else if !bN.looped V S then 15 else if bN.crossed V S then 16 else if bN.anyH V S l then 17 else 0:=rfl
 have hf:aA.not (bN.form V S l)=false→iO V S l=true:=fun h=>by
  have h:(!bN.form V S l)=false:=h
  rw[Bool.not_eq_false'] at h
  exact h
 have n: ∀ b,aA.not b= !b:=fun b=>rfl
 refine⟨fun h=>?_,hf,fun h=>?_,fun h=>?_,fun h=>?_,fun h1 h2=>?_,fun h1 h2 h3=>?_,fun h1 h2 h3 h4=>?_,fun h1 h2 h3 h4 h5=>?_,fun h1 h2 h3 h4 h5 h6=>?_,fun h1 h2 h3 h4 h5 h6=>?_⟩
 ·rw[n] at h;rw[e,h];rfl
 ·have:=(uF (hf h)).1
  exact bH _ rfl _ _ (by show aY V < 1000000;omega)
 ·have:=(uF (hf h)).2.1
  exact bH _ rfl _ _ (by show aY S < 1000000;omega)
 ·have:=(uF (hf h)).2.2
  exact bH _ rfl _ _ (by show aY l < 1000000;omega)
 ·rw[n] at h1 h2;rw[e,h1,h2];rfl
 ·rw[n] at h1 h2;rw[e,h1,h2,h3];rfl
 ·rw[n] at h1 h2 h4;rw[e,h1,h2,h3,h4];rfl
 ·rw[n] at h1 h2 h4;rw[e,h1,h2,h3,h4,h5];rfl
 ·rw[n] at h1 h2 h4;rw[e,h1,h2,h3,h4,h5,h6];rfl
 ·rw[n] at h1 h2 h4;rw[e,h1,h2,h3,h4,h5,h6];rfl
theorem GB:aJ Tryz.prog 74 (GT (aR [.a (.s .pt), .a (.f [])] aA (CP aA bN)) (aR [.a (.s .pt), .a (.f [.p [.s .i3, .s .i3, .s .pt]])] aA (FC aA bN))):=Ch Ad Gz
def uB5 (A:Alg) (U:SU):List (Nat×bU):=(69,aR [.g [.s .i3, .s .i3, .s .pt]] A (sR U)) :: (70,aR [.g [.s .i3, .s .i3, .s .pt]] A (xT A U)) :: (71,aR [.g [.s .i3, .s .i3, .s .pt]] A (Db A U)) :: (72,aR [.g [.s .i3, .s .i3, .s .pt]] A (uJ A U)) :: (73,aR [.g [.s .i3, .s .i3, .s .pt]] A (qM A U)) :: (74,(GT (aR [.a (.s .pt), .a (.f [])] A (CP A U)) (aR [.a (.s .pt), .a (.f [.p [.s .i3, .s .i3, .s .pt]])] A (FC A U)))) :: ([])
theorem Rn:COK Tryz.prog (aN (uB5 aA bN)):=aB GD (aB DX (aB GP (aB Bx (aB yL (aB GB (bC))))))
theorem wE:aJ Tryz.prog 46 (aR [.g [.s .i3, .s .i3, .s .pt]] aA (uI bN)):=by
 refine aW (un:=⟨false,some [0,1,2,3,7,11,15,18,22,25]⟩) tok Rn aL (fn:=Tryz.f46) ?_
 intro w Wr args bs r hg ho hWr A L k hA hL hk
 obtain⟨U,hU⟩:=exE bN
 try rw[← hU]
 try rw[← hA]
 unfold uI at hg
 split at hg <;> cases hg
 rename_i V S l
 have o1:=(aG ho).1
 rw[← hU] at o1
 clear ho
 have f:=Sy A hA U hU V S l
 cbv
 repeat' with_reducible first | (intro hb;cbv) | refine UM ?_ ?_
 all_goals first | exact o1 | exact f.f (by assumption) | exact f.lv (by assumption) | exact f.ls (by assumption) | exact f.ll (by assumption) | skip
 all_goals refine hk _ _ (bW.pure rfl rfl fun ρ=>dL ?_)
 ·have e:=f.c1 hb;subst hU;exact e
 ·have e:=f.c2 (by assumption) hb;subst hU;exact e
 ·have e:=f.c3 (by assumption) (by assumption) hb;subst hU;exact e
 ·have e:=f.c4 (by assumption) (by assumption) (by assumption) hb;subst hU;exact e
 ·have e:=f.c5 (by assumption) (by assumption) (by assumption) (by assumption) hb;subst hU;exact e
 ·have e:=f.c6 (by assumption) (by assumption) (by assumption) (by assumption) (by assumption) hb;subst hU;exact e
 ·have e:=f.c7 (by assumption) (by assumption) (by assumption) (by assumption) (by assumption) hb;subst hU;exact e
end Go.Eng
