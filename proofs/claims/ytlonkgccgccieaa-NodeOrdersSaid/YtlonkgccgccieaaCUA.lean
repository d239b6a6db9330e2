
import Derived.Test.YtlonkgccgccieaaCTA
set_option linter.all false
set_option exponentiation.threshold 3000
set_option maxRecDepth 100000
set_option maxHeartbeats 2000000
namespace Go.Eng
open Go.Proofs
def tJ1 (A:Alg) (H:SH):List (Nat×bU):=(41,aC [.v] A (qO A H)) :: ([])
theorem QZ:COK Try.prog (aN (tJ1 aA bD)):=aB rC (bC)
theorem HZ:aJ Try.prog 43 (aC [.v, .v] aA (FD aA bD)):=by
 refine aH (un:=⟨false,some [0,1,4]⟩) tok QZ aL (fn:=Try.f43) ?_
 intro w Wr args bs r hg ho hWr A L k hA hL hk
 obtain⟨H,hH⟩:=exE bD
 try rw[← hH]
 try rw[← hA]
 unfold FD at hg
 split at hg <;> cases hg
 rename_i x y
 have o1:=(aG ho).1
 have o2:=(aG (aG ho).2).1
 have o3:=(aG (aG (aG ho).2).2).1
 have o4:=(aG (aG (aG (aG ho).2).2).2).1
 clear ho
 rw[← hA] at o1 o2 o3 o4
 cbv
 repeat' with_reducible first | (intro hb;cbv) | refine UM ?_ ?_
 all_goals first | exact o1 | exact o2 | exact o3 | exact o4 | skip
 refine hk _ _ (bE.pure rfl fun ρ=>?_)
 subst hH
 exact Ps rfl
def tJ2 (A:Alg) (F:SF):List (Nat×bU):=(88,aC [.v, .v] A (qN F)) :: ([])
theorem Q0:COK Try.prog (aN (tJ2 aA aO)):=aB Ab (bC)
theorem ak3:aJ Try.prog 63 (aC [.v] aA (C1 bD)):=by
 refine aH (un:=⟨false,some [1,2]⟩) tok Q0 aL (fn:=Try.f63) ?_
 intro w Wr args bs r hg ho hWr A L k hA hL hk
 obtain⟨F,hF⟩:=exE aO
 obtain⟨H,hH⟩:=exE bD
 try rw[← hF]
 try rw[← hH]
 try rw[← hA]
 unfold C1 at hg
 split at hg <;> cases hg
 rename_i p
 have f:A.ite (F.safe p.X 60) (F.safe p.Y 60) false=H.all [p]:=by
  subst hA hF hH
  show(if cQ p.X 60=true then cQ p.Y 60 else false)=(dJ p&&true)
  rw[Bool.and_true]
  unfold dJ
  cases cQ p.X 60 <;> rfl
 cbv
 refine hk _ _ (bE.pure rfl fun ρ=>?_)
 subst hH
 exact yQ f
structure My (A:Alg) (H:SH) (l:List Pt) (k:Int) (w:Pt):Prop where
 o1:A.cmp .leq 0 k=true
 no:A.not (H.all [w])=true→false=H.all l
 nx:A.not (H.all [w])=false→ApI l (k+1)
 ad:A.bin .add .i64 k 1=k+1
 ms:((l.length:Int) - (k+1)).toNat < ((l.length:Int) - k).toNat
theorem Ca {l:List Pt} (hn:l.length < 1000000) {k:Int} (hI:ApI l k) (A:Alg) (hA:A=aA) (H:SH) (hH:H=bD) (hb:A.cmp .lss k (A.len l)=true) (w:Pt) (hw:w=A.get l k ⟨⟨⟨false,A.zD⟩,⟨false,A.zD⟩⟩,⟨⟨false,A.zD⟩,⟨false,A.zD⟩⟩⟩):My A H l k w:=by
 have st:=B9 hn hI A hA aO rfl H hH hb w hw
 have e:A.ite (A.not (aO.safe w.X 60)) true (A.not (aO.safe w.Y 60))=A.not (H.all [w]):=by
  subst hA hH
  show(if(!cQ w.X 60)=true then true else !cQ w.Y 60)= !(dJ w&&true)
  rw[Bool.and_true]
  unfold dJ
  cases cQ w.X 60 <;> cases cQ w.Y 60 <;> rfl
 exact⟨st.o1,fun h=>st.no (by rw[e];exact h),fun h=>st.nx (by rw[e];exact h),st.ad,st.ms⟩
def tJ3 (A:Alg) (H:SH):List (Nat×bU):=(63,aC [.v] A (C1 H)) :: ([])
theorem OI:COK Try.prog (aN (tJ3 aA bD)):=aB ak3 (bC)
theorem KK:aJ Try.prog 36 (aC [.s .pt] aA (uH aA bD)):=by
 refine aH (un:=⟨false,some [0,2,3,7,15]⟩) tok OI aL (fn:=Try.f36) ?_
 intro w Wr args bs r hg ho hWr A L k hA hL hk
 obtain⟨H,hH⟩:=exE bD
 try rw[← hH]
 try rw[← hA]
 unfold uH at hg
 split at hg <;> cases hg
 rename_i l
 have hlen:=(aG ho).1
 simp only[aA,aP,decide_eq_true_eq] at hlen
 have hlen:l.length < 1000000:=by omega
 clear ho
 have i0:ApI l 0:=⟨Int.le_refl 0,Int.natCast_nonneg _,rfl⟩
 cbv
 refine hL _ _ _ (aQ (un:=⟨false,some [0,2,3,7,15]⟩) tok OI aL (fun k:Int=>⟨[(3,⟨[], .c (.s (.int .i64 k))⟩),(2,⟨[], .c (.s (.tt false))⟩),(0,⟨[], .c (.s (.hs 0))⟩)],[(0, .vec false .pt l)],1⟩)
  (fun k=>ApI l k) (fun k=>((l.length:Int) - k).toNat) 0 i0 ?_ (fun _ i hi=>by have:=hWr i hi;simp at this;show i < 1;omega) ?_)
 ·exact⟨⟨⟨rfl,rfl,fun _=>rfl⟩,⟨rfl,rfl,fun _=>rfl⟩,⟨rfl,rfl,fun _=>rfl⟩,trivial⟩,⟨aF rfl,trivial⟩,rfl,rfl⟩
 clear i0
 rintro k hI A2 L2 k2 hA2 hL2 hnext hexit hret
 have st:=fun hb:A2.cmp .lss k (A2.len l)=true=>Ca hlen hI A2 hA2 H hH hb _ rfl
 have en:=fun hb:A2.cmp .lss k (A2.len l)=false=>B8 hI A2 hA2 H hH hb
 clear hI
 rw[← hA2, ← hH]
 cbv
 repeat' with_reducible first | (intro hb;cbv) | refine UM ?_ ?_
 all_goals first | exact(st hb).o1 | exact hb | skip
 ·rename_i hb0
  have e:=(st hb0).no hb
  apply hret
  clear hexit hnext hret st en
  cbv
  refine hk _ _ (bE.pure rfl fun ρ=>?_)
  subst hH
  exact BH e
 ·rename_i hb0
  refine hnext _ (k+1) ((st hb0).nx hb) (st hb0).ms ?_
  have ead:=(st hb0).ad
  subst hA2
  exact⟨⟨⟨rfl,rfl,leI ead⟩,⟨rfl,rfl,fun _=>rfl⟩,⟨rfl,rfl,fun _=>rfl⟩,trivial⟩,⟨aF rfl,trivial⟩,rfl,rfl⟩
 ·have e:=en hb
  apply hexit
  clear hexit hnext hret st en
  cbv
  refine hk _ _ (bE.pure rfl fun ρ=>?_)
  subst hH
  exact BH e
def acS (H:SH):List CV→List Blk→Option LR
 | [.g [.P x], .g [.P y]],[]=>some ⟨[H.all [x,y]], .c (.s (.int .i64 (H.cmp x y))),[]⟩
 | _,_=>none
structure CqF (A:Alg) (F:SF) (H:SH) (x y:Pt):Prop where
 c1:A.cmp .neq (F.cmp x.X y.X) 0=true→F.cmp x.X y.X=H.cmp x y
 c0:A.cmp .neq (F.cmp x.X y.X) 0=false→F.cmp x.Y y.Y=H.cmp x y
theorem agD (x y:Pt) (A:Alg) (hA:A=aA) (F:SF) (hF:F=aO) (H:SH) (hH:H=bD) (ho:H.all [x,y]=true):CqF A F H x y:=by
 subst hA hF hH
 have ho:dX [x,y]=true:=ho
 obtain⟨hx,hy⟩:=Fl ho
 have c1:=((Cal.of hx.x).cmp (Cal.of hy.x) (by decide)).2
 have c2:=((Cal.of hx.y).cmp (Cal.of hy.y) (by decide)).2
 have e:bD.cmp x y=iQ x y:=by
  show(if dX [x,y]=true then _ else _)=_
  rw[ho];rfl
 constructor
 ·intro h
  rw[c1] at h ⊢
  rw[e]
  have h:(cZ (px x) (px y) != 0)=true:=h
  have h:cZ (px x) (px y)≠0:=by simpa using h
  unfold iQ
  rw[if_pos h];rfl
 ·intro h
  rw[c1] at h
  rw[c2,e]
  have h:(cZ (px x) (px y) != 0)=false:=h
  have h:cZ (px x) (px y)=0:=by simpa using h
  unfold iQ
  rw[if_neg (by rw[h];decide)];rfl
def tJ9 (A:Alg) (F:SF) (H:SH):List (Nat×bU):=(68,aC [.v, .v] A (A1 F)) :: ([])
theorem afW:COK Try.prog (aN (tJ9 aA aO bD)):=aB Gs (bC)
theorem acU:aJ Try.prog 38 (aC [.v, .v] aA (acS bD)):=by
 refine aH (un:=⟨false,some [0,1,2,3,4,5,7,18]⟩) tok afW aL (fn:=Try.f38) ?_
 intro w Wr args bs r hg ho hWr A L k hA hL hk
 obtain⟨F,hF⟩:=exE aO
 obtain⟨H,hH⟩:=exE bD
 try rw[← hF]
 try rw[← hH]
 try rw[← hA]
 unfold acS at hg
 split at hg <;> cases hg
 rename_i x y
 have ho:=(aG ho).1
 rw[← hH] at ho
 have cq:=agD x y A hA F hF H hH ho
 cbv
 repeat' with_reducible first | (intro hb;cbv) | refine UM ?_ ?_
 ·refine hk _ _ (bE.pure rfl fun ρ=>?_)
  have e:=cq.c1 hb
  subst hH hF
  exact B2 e
 ·refine hk _ _ (bE.pure rfl fun ρ=>?_)
  have e:=cq.c0 hb
  subst hH hF
  exact B2 e
end Go.Eng
