
import Derived.Test.YtdbmppedhaipoaaGreatZCD3
set_option linter.all false
set_option exponentiation.threshold 3000
set_option maxRecDepth 100000
set_option maxHeartbeats 2000000
namespace Go.Eng
open Go.Proofs
def uJ (A:Alg) (U:SU):List CV→List Blk→Option LW
 | [.g [.s (.hs 0), .s (.hs 1), .s (.hs 2)]],[.vec false .i3 V, .vec false .i3 S, .vec false .pt l]=>some ⟨[U.form V S l], .c (.s (.bool (U.looped V S))),[],[]⟩
 | _,_=>none
theorem uB (V S:List (Int×Int×Int)): ∀ k,(UW V S k).length=V.length
 | 0=>by simp[UW]
 | k+1=>by
  show(zT (zT (UW V S k) _) _).length=_
  have h: ∀ (l:List Int) i,(zT l i).length=l.length:=fun l i=>by show(List.set _ _ _).length=_;simp
  rw[h,h,uB V S k]
structure LdI (S:List (Int×Int×Int)) (k:Int):Prop where
 k0:0≤k
 k1:k≤aY S
structure LdS (A:Alg) (U:SU) (V S:List (Int×Int×Int)) (k:Int):Prop where
 o1:A.cmp .leq 0 k=true
 a0:A.cmp .leq 0 (A.get S k (0,0,0)).1=true
 a1:A.cmp .lss (A.get S k (0,0,0)).1 (A.len (U.ends V S k))=true
 b0:A.cmp .leq 0 (A.get S k (0,0,0)).2.1=true
 b1:A.cmp .lss (A.get S k (0,0,0)).2.1 (A.len (A.set (U.ends V S k) (A.get S k (0,0,0)).1 (A.bin .add .i64 (A.get (U.ends V S k) (A.get S k (0,0,0)).1 0) 1)))=true
 nx:A.set (A.set (U.ends V S k) (A.get S k (0,0,0)).1 (A.bin .add .i64 (A.get (U.ends V S k) (A.get S k (0,0,0)).1 0) 1)) (A.get S k (0,0,0)).2.1
  (A.bin .add .i64 (A.get (A.set (U.ends V S k) (A.get S k (0,0,0)).1 (A.bin .add .i64 (A.get (U.ends V S k) (A.get S k (0,0,0)).1 0) 1)) (A.get S k (0,0,0)).2.1 0) 1)=U.ends V S (k+1)
 I:LdI S (k+1)
 ad:A.bin .add .i64 k 1=k+1
 ms:(aY S - (k+1)).toNat < (aY S - k).toNat
theorem JX {V S:List (Int×Int×Int)} {l:List Pt} (hf:iO V S l=true) {k:Int} (hI:LdI S k) (A:Alg) (hA:A=aA) (U:SU) (hU:U=bN) (hb:A.cmp .lss k (A.len S)=true):LdS A U V S k:=by
 subst hA hU
 have hb:k < aY S:=of_decide_eq_true hb
 obtain⟨k0,k1⟩:=hI
 unfold iO at hf
 simp only[Bool.and_eq_true,Bool.not_eq_true'] at hf
 obtain⟨h0,h1,h2,h3⟩:=hf
 have hls:aY S < 1000:=by
  unfold pB at h0
  simp only[Bool.or_eq_false_iff,decide_eq_false_iff_not] at h0
  omega
 have hs:=dY.1 h2 k k0 hb
 unfold zC at hs
 simp only[Bool.or_eq_false_iff,Bool.not_eq_false'] at hs
 obtain⟨g1,g2,g3,g4⟩:=hs
 unfold nS at g1 g2
 simp only[Bool.and_eq_true,decide_eq_true_eq] at g1 g2
 have hl:aA.len (bN.ends V S k)=aY V:=by show(((UW V S k.toNat).length:Nat):Int)=_;rw[uB];rfl
 have hl2: ∀ i z,aA.len (aA.set (bN.ends V S k) i z)=aY V:=fun i z=>by
  rw[← hl];show(((List.set _ _ _).length:Nat):Int)=_;rw[List.length_set];rfl
 refine⟨decide_eq_true k0,decide_eq_true g1.1,?_,decide_eq_true g2.1,?_,?_,⟨by omega,by omega⟩,?_,by omega⟩
 ·rw[hl];exact decide_eq_true g1.2
 ·rw[hl2];exact decide_eq_true g2.2
 ·show _=UW V S (k+1).toNat
  rw[show(k+1).toNat=k.toNat+1 from by omega]
  have hk:((k.toNat:Nat):Int)=k:=by omega
  show _=zT (zT (UW V S k.toNat) (cK S ((k.toNat:Nat):Int)).1) (cK S ((k.toNat:Nat):Int)).2.1
  rw[hk];rfl
 ·show IntKind.i64.wrap (k+1)=k+1
  rw[IntKind.wrap_i64];omega
structure LdE (A:Alg) (U:SU) (V S:List (Int×Int×Int)) (k:Int):Prop where
 r:A.not (U.anyI (U.ends V S k))=U.looped V S
 l:A.cmp .lss (A.len (U.ends V S k)) 1000000=true
theorem Nk {V S:List (Int×Int×Int)} {l:List Pt} (hf:iO V S l=true) {k:Int} (hI:LdI S k) (A:Alg) (hA:A=aA) (U:SU) (hU:U=bN) (hb:A.cmp .lss k (A.len S)=false):LdE A U V S k:=by
 subst hA hU
 have hb: ¬ k < aY S:=of_decide_eq_false hb
 obtain⟨k0,k1⟩:=hI
 have hk:k.toNat=S.length:=by unfold aY at hb k1;omega
 have hl: ∀ m,aY (UW V S m)=aY V:=fun m=>by unfold aY;rw[uB]
 unfold iO at hf
 simp only[Bool.and_eq_true,Bool.not_eq_true'] at hf
 have hlv:aY V < 1000:=by
  have h0:=hf.1
  unfold pB at h0
  simp only[Bool.or_eq_false_iff,decide_eq_false_iff_not] at h0
  omega
 refine⟨?_,?_⟩
 ·show(!cY (aY (UW V S k.toNat)) fun j=>decide (mU (UW V S k.toNat) j≠2))= !cY (aY V) fun j=>decide (mU (UW V S S.length) j≠2)
  rw[hl,hk]
 ·have:=hl k.toNat
  exact bH _ rfl _ _ (by show aY (UW V S k.toNat) < 1000000;omega)
structure LdZ (A:Alg) (U:SU) (V S:List (Int×Int×Int)):Prop where
 o1:A.cmp .leq 0 (A.len V)=true
 o2:A.cmp .eql (A.len V) (A.len V)=true
 o3:A.cmp .leq (A.len V) 1000000=true
 z:A.rep (A.len V) 0=U.ends V S 0
theorem JY {V S:List (Int×Int×Int)} {l:List Pt} (hf:iO V S l=true) (A:Alg) (hA:A=aA) (U:SU) (hU:U=bN):LdZ A U V S:=by
 subst hA hU
 unfold iO at hf
 simp only[Bool.and_eq_true,Bool.not_eq_true'] at hf
 have hlv:aY V < 1000:=by
  have h0:=hf.1
  unfold pB at h0
  simp only[Bool.or_eq_false_iff,decide_eq_false_iff_not] at h0
  omega
 refine⟨bJ _ rfl _ _ (by show(0:Int)≤aY V;exact Int.natCast_nonneg _),by rw[fG];simp,bJ _ rfl _ _ (by show aY V≤1000000;omega),?_⟩
 show List.replicate ((V.length:Int)).toNat 0=List.replicate V.length 0
 simp
def uA4 (A:Alg) (U:SU):List (Nat×bU):=(109,aR [.a (.s (.int .i64)), .a (.f [])] A (Jj A U)) :: ([])
theorem Ph:COK Tryz.prog (aN (uA4 aA bN)):=aB GA (bC)
theorem Bx:aJ Tryz.prog 72 (aR [.g [.s .i3, .s .i3, .s .pt]] aA (uJ aA bN)):=by
 refine aW (un:=⟨false,some [0,1,2,3,5,15,16,17,18]⟩) tok Ph aL (fn:=Tryz.f72) ?_
 intro w Wr args bs r hg ho hWr A L k hA hL hk
 obtain⟨U,hU⟩:=exE bN
 try rw[← hU]
 try rw[← hA]
 unfold uJ at hg
 split at hg <;> cases hg
 rename_i V S l
 have hf:iO V S l=true:=(aG ho).1
 clear ho
 have z:=JY (V:=V) (S:=S) hf A hA U hU
 have i0:LdI S 0:=⟨Int.le_refl _,Int.natCast_nonneg _⟩
 cbv
 repeat' with_reducible first | (intro hb;cbv) | refine UM ?_ ?_
 all_goals first | exact z.o1 | exact z.o2 | exact z.o3 | skip
 refine hL _ _ _ (aQ (un:=⟨false,some [0,1,2,3,5,15,16,17,18]⟩) tok Ph aL (fun k:Int=>⟨[(17,⟨[], .c (.s (.int .i64 k))⟩),(16,⟨[], .c (.s (.int .i64 (A.len S)))⟩),(15,⟨[], .c (.s (.hs 1))⟩),(3,⟨[], .c (.s (.hs 4))⟩),(2,⟨[], .c (.s (.tt false))⟩),(1,⟨[], .c (.s (.hp 3 0))⟩)],[(4, .vec true (.int .i64) (U.ends V S k)),(3, .fix true [.s (.hs 0), .s (.hs 1), .s (.hs 2)]),(0, .vec false .i3 V),(1, .vec false .i3 S),(2, .vec false .pt l)],5⟩)
  (fun k=>LdI S k) (fun k=>(aY S - k).toNat) 0 i0 ?_ (fun _ i hi=>by have:=hWr i hi;simp at this;show i < 5;omega) ?_)
 ·have ez:=z.z
  exact⟨⟨⟨rfl,rfl,fun _=>rfl⟩,⟨rfl,rfl,fun _=>rfl⟩,⟨rfl,rfl,fun _=>rfl⟩,⟨rfl,rfl,fun _=>rfl⟩,⟨rfl,rfl,fun _=>rfl⟩,⟨rfl,rfl,fun _=>rfl⟩,trivial⟩,⟨leV ez,aF rfl,aF rfl,aF rfl,aF rfl,trivial⟩,rfl,rfl⟩
 clear i0 z
 rintro k hI A2 L2 k2 hA2 hL2 hnext hexit hret
 have st:=fun hb:A2.cmp .lss k (A2.len S)=true=>JX hf hI A2 hA2 U hU hb
 have en:=fun hb:A2.cmp .lss k (A2.len S)=false=>Nk hf hI A2 hA2 U hU hb
 clear hI hf
 rw[hA, ← hA2, ← hU]
 cbv
 repeat' with_reducible first | (intro hb;cbv) | refine UM ?_ ?_
 all_goals first | exact(st hb).o1 | exact(st hb).a0 | exact(st hb).a1 | exact(st hb).b0 | exact(st hb).b1 | exact hb | skip
 ·refine hnext _ (k+1) (st hb).I (st hb).ms ?_
  have ead:=(st hb).ad
  have enx:=(st hb).nx
  subst hA2 hA hU
  exact⟨⟨⟨rfl,rfl,leI ead⟩,⟨rfl,rfl,fun _=>rfl⟩,⟨rfl,rfl,fun _=>rfl⟩,⟨rfl,rfl,fun _=>rfl⟩,⟨rfl,rfl,fun _=>rfl⟩,⟨rfl,rfl,fun _=>rfl⟩,trivial⟩,⟨leV enx,aF rfl,aF rfl,aF rfl,aF rfl,trivial⟩,rfl,rfl⟩
 ·have e:=en hb
  have e1:=e.r
  have e2:=e.l
  rw[hA2, ← hA] at e1 e2
  apply hexit
  clear hexit hnext hret st en e
  cbv
  repeat' with_reducible first | (intro hb;cbv) | refine UM ?_ ?_
  ·exact e2
  refine hk _ _ (bW.pure rfl rfl fun ρ=>dB ?_)
  subst hU
  exact e1
end Go.Eng
