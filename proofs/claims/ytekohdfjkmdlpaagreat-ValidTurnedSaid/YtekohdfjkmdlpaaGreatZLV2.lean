
import Derived.Test.YtekohdfjkmdlpaaGreatZLV1
import Derived.Test.YtekohdfjkmdlpaaGreatSpecU6
import Derived.Test.YtekohdfjkmdlpaaGreatEngAE
set_option linter.all false
set_option exponentiation.threshold 3000
namespace Go.Eng
open Go.Proofs
set_option maxRecDepth 100000
set_option linter.all false
set_option exponentiation.threshold 3000
set_option maxHeartbeats 2000000
def gVU (A:Alg) (U:SU):List CV→List Blk→Option LW
 | [.g [.s (.hs 0), .s (.hs 1), .s (.hs 2)], .s (.int .u8 by_), .s (.int .u32 back)],[.vec false .i3 V, .vec false .i3 S, .vec false .pt l]=>some ⟨[A.cmp .leq 0 by_,A.cmp .lss by_ 256,A.cmp .leq 0 back,A.cmp .lss back 4294967296,U.inb V,U.inb S], .c (.s (.bool true)),[],[]⟩
 | _,_=>none
structure VuC (A:Alg) (V S:List (Int×Int×Int)):Prop where
 nz:A.cmp .neq (A.len V) 0=true
 mz:A.cmp .neq (A.len S) 0=true
 v0:0 < aY V
 v1:aY V≤18
 s0:0 < aY S
 s1:aY S≤18
theorem TD {V S:List (Int×Int×Int)} {l:List Pt} (A:Alg) (hA:A=aA) (h:A.ite (A.ite (A.not (A.ite (A.ite (A.cmp .leq (A.len V) 18) (A.cmp .leq (A.len S) 18) false) (A.cmp .leq (A.len l) 6) false)) true (A.cmp .eql (A.len V) 0)) true (A.cmp .eql (A.len S) 0)=false):VuC A V S:=by
 subst hA
 have h:(if(if(!(if(if decide (aY V≤18)=true then decide (aY S≤18) else false)=true then decide ((l.length:Int)≤6) else false))=true then true else(aY V == 0))=true then true else(aY S == 0))=false:=h
 have pv:0≤aY V:=Int.natCast_nonneg _
 have ps:0≤aY S:=Int.natCast_nonneg _
 by_cases h1:aY V≤18 <;> by_cases h2:aY S≤18 <;> by_cases h3:(l.length:Int)≤6 <;> simp[h1,h2,h3] at h
 have e1:(aY V != 0)=true:=by simp[h.1]
 have e2:(aY S != 0)=true:=by simp[h.2]
 exact⟨e1,e2,by omega,h1,by omega,h2⟩
theorem Te {a b:Int} (ha:0≤a) (hb:0 < b):aD .rem .i64 a b=a % b:=by
 show a.tmod b=_
 exact Int.tmod_eq_emod_of_nonneg ha
structure VuV (A:Alg) (V R:List (Int×Int×Int)) (k i:Int) (d:Int) (x:Int×Int×Int):Prop where
 lo:A.cmp .leq 0 d=true
 hi:A.cmp .lss d (A.len V)=true
 cap:A.cmp .leq (A.iadd (A.len R) (A.len [x])) 1000000=true
 nx:To V k (i+1) (A.app R [x])
 ad:A.bin .add .i64 i 1=i+1
 ms:(aY V - (i+1)).toNat < (aY V - i).toNat
theorem TG {V S R:List (Int×Int×Int)} {by_ i:Int} (A:Alg) (hA:A=aA) (c:VuC aA V S) (b0:0≤by_) (b1:by_ < 256) (hI:To V (by_ % aY V) i R) (hb:A.cmp .lss i (A.len V)=true) (d:Int) (hd:d=A.bin .rem .i64 (A.bin .add .i64 i (A.bin .rem .i64 (A.wrap .i64 by_) (A.len V))) (A.len V)) (x:Int×Int×Int) (hx:x=A.get V d (0,0,0)):VuV A V R (by_ % aY V) i d x:=by
 subst hA
 have hb:i < aY V:=of_decide_eq_true hb
 have c0:=c.v0
 have c1:=c.v1
 have hw:aA.wrap .i64 by_=by_:=by show IntKind.i64.wrap by_=_;rw[IntKind.wrap_i64];omega
 have hi0:=hI.i0
 have hm0:=Int.emod_nonneg by_ (show aY V≠0 by omega)
 have hm1:=Int.emod_lt_of_pos by_ c0
 have e1:d=(i+by_ % aY V) % aY V:=by
  rw[hd,hw]
  show aD .rem .i64 (aD .add .i64 i (aD .rem .i64 by_ (aY V))) (aY V)=_
  rw[Te b0 c0]
  have:aD .add .i64 i (by_ % aY V)=i+by_ % aY V:=by show IntKind.i64.wrap _=_;rw[IntKind.wrap_i64];omega
  rw[this,Te (by omega) c0]
 have d0:=Int.emod_nonneg (i+by_ % aY V) (show aY V≠0 by omega)
 have d1:=Int.emod_lt_of_pos (i+by_ % aY V) c0
 rw[← e1] at d0 d1
 have hl:=hI.ln
 exact {
  lo:=bJ _ rfl _ _ d0
  hi:=bH _ rfl _ _ d1
  cap:=bJ _ rfl _ _ (by show(R.length:Int)+1≤1000000;omega)
  nx:=hI.step hb (by rw[hx,e1];rfl)
  ad:=by show IntKind.i64.wrap _=_;rw[IntKind.wrap_i64];omega
  ms:=by omega }
structure VuS (A:Alg) (V S T:List (Int×Int×Int)) (k by_ j:Int) (d:Int) (s:Int×Int×Int) (a b:Int):Prop where
 lo:A.cmp .leq 0 d=true
 hi:A.cmp .lss d (A.len S)=true
 g0:A.cmp .geq (A.wrap .u64 j) 0=true
 c1:A.cmp .leq (A.iadd (A.len T) (A.len [(b,a,s.2.2)])) 1000000=true
 c2:A.cmp .leq (A.iadd (A.len T) (A.len [(a,b,s.2.2)])) 1000000=true
 n1:A.ite (A.ite (A.ite (A.cmp .lss s.1 0) true (A.cmp .lss s.2.1 0)) true (A.cmp .geq s.1 (A.len V))) true (A.cmp .geq s.2.1 (A.len V))=false→Tp V S k by_ (j+1) (A.app T [(b,a,s.2.2)])
 n2:A.ite (A.ite (A.ite (A.cmp .lss s.1 0) true (A.cmp .lss s.2.1 0)) true (A.cmp .geq s.1 (A.len V))) true (A.cmp .geq s.2.1 (A.len V))=false→Tp V S k by_ (j+1) (A.app T [(a,b,s.2.2)])
 ad:A.bin .add .i64 j 1=j+1
 ms:(aY S - (j+1)).toNat < (aY S - j).toNat
theorem TA {a b c d:Bool} (h:(if(if(if a=true then true else b)=true then true else c)=true then true else d)=false):a=false∧b=false∧c=false∧d=false:=by
 cases a <;> cases b <;> cases c <;> cases d <;> simp_all
theorem TF {V S T:List (Int×Int×Int)} {by_ j:Int} (A:Alg) (hA:A=aA) (c:VuC aA V S) (b0:0≤by_) (b1:by_ < 256) (hI:Tp V S (by_ % aY V) by_ j T) (hb:A.cmp .lss j (A.len S)=true) (d:Int) (hd:d=A.bin .rem .i64 (A.bin .add .i64 j (A.wrap .i64 by_)) (A.len S)) (s:Int×Int×Int) (hs:s=A.get S d (0,0,0)) (a b:Int) (ha:a=A.bin .rem .i64 (A.bin .sub .i64 (A.bin .add .i64 s.1 (A.len V)) (A.bin .rem .i64 (A.wrap .i64 by_) (A.len V))) (A.len V)) (hbb:b=A.bin .rem .i64 (A.bin .sub .i64 (A.bin .add .i64 s.2.1 (A.len V)) (A.bin .rem .i64 (A.wrap .i64 by_) (A.len V))) (A.len V)):VuS A V S T (by_ % aY V) by_ j d s a b:=by
 subst hA
 have hb:j < aY S:=of_decide_eq_true hb
 have c0:=c.v0
 have c1:=c.v1
 have m0:=c.s0
 have m1:=c.s1
 have hw:aA.wrap .i64 by_=by_:=by show IntKind.i64.wrap by_=_;rw[IntKind.wrap_i64];omega
 have hj0:=hI.i0
 have e1:d=(j+by_) % aY S:=by
  rw[hd,hw]
  show aD .rem .i64 (aD .add .i64 j by_) (aY S)=_
  have:aD .add .i64 j by_=j+by_:=by show IntKind.i64.wrap _=_;rw[IntKind.wrap_i64];omega
  rw[this,Te (by omega) m0]
 have d0:=Int.emod_nonneg (j+by_) (show aY S≠0 by omega)
 have d1:=Int.emod_lt_of_pos (j+by_) m0
 rw[← e1] at d0 d1
 have hl:=hI.ln
 have hm0:=Int.emod_nonneg by_ (show aY V≠0 by omega)
 have hm1:=Int.emod_lt_of_pos by_ c0
 have es:s=cK S ((j+by_) % aY S):=by rw[hs,e1];rfl
 have rm: ∀ z:Int,0≤z→z < aY V→aA.bin .rem .i64 (aA.bin .sub .i64 (aA.bin .add .i64 z (aA.len V)) (aA.bin .rem .i64 (aA.wrap .i64 by_) (aA.len V))) (aA.len V)=(z+aY V - by_ % aY V) % aY V:=fun z z0 z1=>by
  rw[hw]
  show aD .rem .i64 (aD .sub .i64 (aD .add .i64 z (aY V)) (aD .rem .i64 by_ (aY V))) (aY V)=_
  rw[Te b0 c0]
  have e:aD .add .i64 z (aY V)=z+aY V:=by show IntKind.i64.wrap _=_;rw[IntKind.wrap_i64];omega
  have e2:aD .sub .i64 (z+aY V) (by_ % aY V)=z+aY V - by_ % aY V:=by show IntKind.i64.wrap _=_;rw[IntKind.wrap_i64];omega
  rw[e,e2,Te (by omega) c0]
 have rng:aA.ite (aA.ite (aA.ite (aA.cmp .lss s.1 0) true (aA.cmp .lss s.2.1 0)) true (aA.cmp .geq s.1 (aA.len V))) true (aA.cmp .geq s.2.1 (aA.len V))=false→(0≤s.1∧s.1 < aY V)∧(0≤s.2.1∧s.2.1 < aY V):=fun h=>by
  obtain⟨h1,h2,h3,h4⟩:=TA h
  have h1: ¬ (s.1 < 0):=of_decide_eq_false h1
  have h2: ¬ (s.2.1 < 0):=of_decide_eq_false h2
  have h3: ¬ (s.1 ≥ aY V):=of_decide_eq_false h3
  have h4: ¬ (s.2.1 ≥ aY V):=of_decide_eq_false h4
  omega
 exact {
  lo:=bJ _ rfl _ _ d0
  hi:=bH _ rfl _ _ d1
  g0:=by
   show decide (IntKind.u64.wrap j ≥ 0)=true
   rw[cX];exact decide_eq_true (by omega)
  c1:=bJ _ rfl _ _ (by show(T.length:Int)+1≤1000000;omega)
  c2:=bJ _ rfl _ _ (by show(T.length:Int)+1≤1000000;omega)
  n1:=fun h=>hI.step hb ⟨by rw[← es];exact(rng h).1,by rw[← es];exact(rng h).2,by rw[← es], .inr ⟨by rw[← es,hbb];exact rm _ (rng h).2.1 (rng h).2.2,by rw[← es,ha];exact rm _ (rng h).1.1 (rng h).1.2⟩⟩
  n2:=fun h=>hI.step hb ⟨by rw[← es];exact(rng h).1,by rw[← es];exact(rng h).2,by rw[← es], .inl ⟨by rw[← es,ha];exact rm _ (rng h).1.1 (rng h).1.2,by rw[← es,hbb];exact rm _ (rng h).2.1 (rng h).2.2⟩⟩
  ad:=by show IntKind.i64.wrap _=_;rw[IntKind.wrap_i64];omega
  ms:=by omega }
theorem Tz {V:List (Int×Int×Int)} {j:Int} (h0:0≤j) (h1:j < aY V):cK V j∈V:=by
 have hj:j.toNat < V.length:=by unfold aY at h1;omega
 have:cK V j=V[j.toNat]:=by
  show(V[j.toNat]?).getD _=_
  rw[List.getElem?_eq_getElem hj];rfl
 rw[this];exact List.getElem_mem hj
theorem TB {V R:List (Int×Int×Int)} {k:Int} (c0:0 < aY V) (h:To V k (aY V) R) (hb:bN.inb V=true):bN.inb R=true:=by
 have hb:=List.all_eq_true.1 hb
 refine List.all_eq_true.2 fun x hx=>?_
 obtain⟨n,hn,rfl⟩:=List.getElem_of_mem hx
 have hl:=h.ln
 have e:cK R n=R[n]:=by
  show(R[(n:Int).toNat]?).getD _=_
  rw[Int.toNat_natCast,List.getElem?_eq_getElem hn];rfl
 have:=h.g n (by omega) (by omega)
 rw[e] at this
 rw[this]
 exact hb _ (Tz (Int.emod_nonneg _ (by omega)) (Int.emod_lt_of_pos _ c0))
structure VuE (A:Alg) (U:SU) (V S R T:List (Int×Int×Int)) (l:List Pt):Prop where
 i1:U.inb R=true
 i2:U.inb V=true
 ck:U.check R T l=U.check V S l
theorem TE {V S R T:List (Int×Int×Int)} {l:List Pt} {by_ i j:Int} (A:Alg) (U:SU) (hU:U=bN) (c:VuC aA V S) (b0:0≤by_) (hI:To V (by_ % aY V) i R) (h1:aA.cmp .lss i (aA.len V)=false) (hJ:Tp V S (by_ % aY V) by_ j T) (h2:aA.cmp .lss j (aA.len S)=false) (bv:U.inb V=true):VuE A U V S R T l:=by
 subst hU
 have h1: ¬ (i < aY V):=of_decide_eq_false h1
 have h2: ¬ (j < aY S):=of_decide_eq_false h2
 have c0:=c.v0
 have e1:i=aY V:=by have:=hI.i1;omega
 have e2:j=aY S:=by have:=hJ.i1;omega
 subst e1 e2
 exact⟨TB c0 hI bv,bv,(Tx c0 c.s0 (Int.emod_nonneg _ (by omega)) (Int.emod_lt_of_pos _ c0) b0 hI hJ).check l⟩
theorem Tg:aJ Tryz.prog 5 (aR [.g [.s .i3, .s .i3, .s .pt], .a .v, .a .v] aA (gVU aA bN)):=by
 refine aW (un:=⟨false,some [0,1,2,3,6,7,8,9,10,11,12,14,29,42,63,97,121]⟩) tok Rr aL (fn:=Tryz.f5) (by kernel_rfl) (by kernel_rfl) (by kernel_rfl) (by decide +kernel) ?_
 intro w Wr args bs r hg ho hWr A L k hA hL hk
 obtain⟨H,hH⟩: ∃ H,H=bD:=⟨_,rfl⟩
 obtain⟨O,hO⟩: ∃ O,O=pE:=⟨_,rfl⟩
 obtain⟨U,hU⟩: ∃ U,U=bN:=⟨_,rfl⟩
 (try rw[← hH])
 (try rw[← hO])
 (try rw[← hU])
 (try rw[← hA])
 unfold gVU at hg
 split at hg
 rotate_left
 ·cases hg
 simp only[Option.some.injEq] at hg
 subst hg
 rename_i by_ back V S l
 change List (Int×Int×Int) at V
 change List (Int×Int×Int) at S
 change List Pt at l
 have y0:=(aG ho).1;replace ho:=(aG ho).2
 have y1:=(aG ho).1;replace ho:=(aG ho).2
 have k0:=(aG ho).1;replace ho:=(aG ho).2
 have k1:=(aG ho).1;replace ho:=(aG ho).2
 have bv:=(aG ho).1;replace ho:=(aG ho).2
 have bs:=(aG ho).1;replace ho:=(aG ho).2
 clear ho
 simp only[aA,aP,decide_eq_true_eq] at y0 y1 k0 k1 bv bs
 have vc:=fun h=>TD (V:=V) (S:=S) (l:=l) A hA h
 cbv
 repeat' first | (with_reducible intro hb;cbv) | with_reducible refine And.intro ?_ ?_
 ·exfalso;subst hA;cases hb
 ·exact hk _ _ (bW.pure rfl rfl fun ρ=>dT rfl)
 ·exact(vc (by assumption)).nz
 have c:VuC aA V S:=by rw[← hA];exact vc (by assumption)
 clear vc
 refine hL _ _ _ (gM (un:=⟨false,some [0,1,2,3,6,7,8,9,10,11,12,14,29,42,63,97,121]⟩) tok Rr aL 3 (fun i hi=>by have:=hWr i hi;simp at this;show i < 3;omega) (fun p:Int×List (Int×Int×Int)=>⟨[(10,⟨[], .c (.s (.int .i64 p.1))⟩),(9,⟨[], .c (.s (.int .i64 (aA.bin .rem .i64 (aA.wrap .i64 by_) (aA.len V))))⟩),(8,⟨[], .c (.s (.hp 4 0))⟩),(7,⟨[], .c (.s (.int .i64 (aA.len V)))⟩),(3,⟨[], .c (.s (.hp 3 0))⟩),(2,⟨[], .c (.s (.int .u32 back))⟩),(1,⟨[], .c (.s (.int .u8 by_))⟩)],[(0, .vec false .i3 V),(1, .vec false .i3 S),(2, .vec false .pt l),(3, .fix true [.s (.hs 0), .s (.hs 1), .s (.hs 2)]),(4, .fix true [.s (.hs 5), .s .nils, .s (.hs 2)]),(5, .vec true .i3 p.2)],6⟩)
  (fun p=>To V (by_ % aY V) p.1 p.2) (fun p=>(aY V - p.1).toNat) (0,[]) (To.zero V _) [(5, .nils)] ?_ (fun _=>Nat.le_of_ble_eq_true rfl) ?_)
 ·subst hA
  exact⟨⟨⟨rfl,rfl,fun _=>rfl⟩,⟨rfl,rfl,fun _=>rfl⟩,⟨rfl,rfl,fun _=>rfl⟩,⟨rfl,rfl,fun _=>rfl⟩,⟨rfl,rfl,fun _=>rfl⟩,⟨rfl,rfl,fun _=>rfl⟩,⟨rfl,rfl,fun _=>rfl⟩,trivial⟩,⟨⟨rfl,rfl,rfl,rfl,fun h=>h⟩,⟨rfl,rfl,rfl,rfl,fun h=>h⟩,⟨rfl,rfl,rfl,rfl,fun h=>h⟩,⟨rfl,rfl,fun _=>rfl⟩,⟨rfl,rfl,fun _=>rfl⟩,rfl,trivial⟩,rfl,rfl,rfl,rfl⟩
 rintro⟨i,R⟩ hI A2 L2 k2 hA2 hL2 hnext hexit hret
 have nz:A2.cmp .neq (A2.len V) 0=true:=by rw[hA2];exact c.nz
 have st:=fun hb:A2.cmp .lss i (A2.len V)=true=>TG A2 hA2 c y0 y1 hI hb _ rfl _ rfl
 rw[← hA2, ← hU, ← hO, ← hH]
 cbv
 repeat' first | (with_reducible intro hb;cbv) | with_reducible refine And.intro ?_ ?_
 all_goals first | exact nz | exact(st hb).lo | exact(st hb).hi | exact(st hb).cap | skip
 ·refine hnext _ (i+1,_) [(5, .hs 7)] (st hb).nx (st hb).ms ?_
  have ead:=(st hb).ad
  subst hA2
  exact⟨⟨⟨rfl,rfl,leI ead⟩,⟨rfl,rfl,fun _=>rfl⟩,⟨rfl,rfl,fun _=>rfl⟩,⟨rfl,rfl,fun _=>rfl⟩,⟨rfl,rfl,fun _=>rfl⟩,⟨rfl,rfl,fun _=>rfl⟩,⟨rfl,rfl,fun _=>rfl⟩,trivial⟩,⟨⟨rfl,rfl,rfl,rfl,fun h=>h⟩,⟨rfl,rfl,rfl,rfl,fun h=>h⟩,⟨rfl,rfl,rfl,rfl,fun h=>h⟩,⟨rfl,rfl,fun _=>rfl⟩,⟨rfl,rfl,fun _=>rfl⟩,⟨rfl,rfl,rfl,rfl,fun h=>h⟩,trivial⟩,rfl,rfl,rfl,rfl⟩
 ·apply hexit
  clear hexit hnext hret st
  cbv
  repeat' first | (with_reducible intro hb;cbv) | with_reducible refine And.intro ?_ ?_
  refine hL _ _ _ (gM (un:=⟨false,some [0,1,2,3,6,7,8,9,10,11,12,14,29,42,63,97,121]⟩) tok Rr aL 3 (fun i hi=>by have:=hWr i hi;simp at this;show i < 3;omega) (fun p:Int×List (Int×Int×Int)=>⟨[(11,⟨[], .c (.s (.int .i64 p.1))⟩),(9,⟨[], .c (.s (.int .i64 (aA.bin .rem .i64 (aA.wrap .i64 by_) (aA.len V))))⟩),(8,⟨[], .c (.s (.hp 4 0))⟩),(7,⟨[], .c (.s (.int .i64 (aA.len V)))⟩),(3,⟨[], .c (.s (.hp 3 0))⟩),(2,⟨[], .c (.s (.int .u32 back))⟩),(1,⟨[], .c (.s (.int .u8 by_))⟩)],[(0, .vec false .i3 V),(1, .vec false .i3 S),(2, .vec false .pt l),(3, .fix true [.s (.hs 0), .s (.hs 1), .s (.hs 2)]),(4, .fix true [.s (.hs 5), .s (.hs 6), .s (.hs 2)]),(5, .vec true .i3 R),(6, .vec true .i3 p.2)],7⟩)
   (fun p=>Tp V S (by_ % aY V) by_ p.1 p.2) (fun p=>(aY S - p.1).toNat) (0,[]) (Tp.zero V S _ _) [(6, .nils)] ?_ (fun _=>Nat.le_of_ble_eq_true rfl) ?_)
  ·subst hA hA2
   exact⟨⟨⟨rfl,rfl,fun _=>rfl⟩,⟨rfl,rfl,fun _=>rfl⟩,⟨rfl,rfl,fun _=>rfl⟩,⟨rfl,rfl,fun _=>rfl⟩,⟨rfl,rfl,fun _=>rfl⟩,⟨rfl,rfl,fun _=>rfl⟩,⟨rfl,rfl,fun _=>rfl⟩,trivial⟩,⟨⟨rfl,rfl,rfl,rfl,fun h=>h⟩,⟨rfl,rfl,rfl,rfl,fun h=>h⟩,⟨rfl,rfl,rfl,rfl,fun h=>h⟩,⟨rfl,rfl,fun _=>rfl⟩,⟨rfl,rfl,fun _=>rfl⟩,⟨rfl,rfl,rfl,rfl,fun h=>h⟩,rfl,trivial⟩,rfl,rfl,rfl,rfl⟩
  rintro⟨j,T⟩ hJ A3 L3 k3 hA3 hL3 hnext hexit hret
  have nz:A3.cmp .neq (A3.len V) 0=true:=by rw[hA3];exact c.nz
  have mz:A3.cmp .neq (A3.len S) 0=true:=by rw[hA3];exact c.mz
  have st:=fun hb:A3.cmp .lss j (A3.len S)=true=>TF A3 hA3 c y0 y1 hJ hb _ rfl _ rfl _ _ rfl rfl
  have en:=fun(h1:aA.cmp .lss i (aA.len V)=false) (h2:aA.cmp .lss j (aA.len S)=false)=>TE (l:=l) A U hU c y0 hI h1 hJ h2 (by rw[hU];exact bv)
  rw[← hA3, ← hU, ← hO, ← hH]
  cbv
  repeat' first | (with_reducible intro hb;cbv) | with_reducible refine And.intro ?_ ?_
  all_goals first | exact nz | exact mz | exact(st (by assumption)).lo | exact(st (by assumption)).hi | exact(st (by assumption)).g0 | exact(st (by assumption)).c1 | exact(st (by assumption)).c2 | skip
  ·apply hret
   clear hexit hnext hret st en
   cbv
   exact hk _ _ (bW.pure rfl rfl fun ρ=>dT rfl)
  ·refine hnext _ (j+1,_) [(6, .hs 9)] ((st (by assumption)).n1 (by assumption)) (st (by assumption)).ms ?_
   have ead:=(st (by assumption)).ad
   clear st en
   subst hA3
   exact⟨⟨⟨rfl,rfl,leI ead⟩,⟨rfl,rfl,fun _=>rfl⟩,⟨rfl,rfl,fun _=>rfl⟩,⟨rfl,rfl,fun _=>rfl⟩,⟨rfl,rfl,fun _=>rfl⟩,⟨rfl,rfl,fun _=>rfl⟩,⟨rfl,rfl,fun _=>rfl⟩,trivial⟩,⟨⟨rfl,rfl,rfl,rfl,fun h=>h⟩,⟨rfl,rfl,rfl,rfl,fun h=>h⟩,⟨rfl,rfl,rfl,rfl,fun h=>h⟩,⟨rfl,rfl,fun _=>rfl⟩,⟨rfl,rfl,fun _=>rfl⟩,⟨rfl,rfl,rfl,rfl,fun h=>h⟩,⟨rfl,rfl,rfl,rfl,fun h=>h⟩,trivial⟩,rfl,rfl,rfl,rfl⟩
  ·refine hnext _ (j+1,_) [(6, .hs 9)] ((st (by assumption)).n2 (by assumption)) (st (by assumption)).ms ?_
   have ead:=(st (by assumption)).ad
   clear st en
   subst hA3
   exact⟨⟨⟨rfl,rfl,leI ead⟩,⟨rfl,rfl,fun _=>rfl⟩,⟨rfl,rfl,fun _=>rfl⟩,⟨rfl,rfl,fun _=>rfl⟩,⟨rfl,rfl,fun _=>rfl⟩,⟨rfl,rfl,fun _=>rfl⟩,⟨rfl,rfl,fun _=>rfl⟩,trivial⟩,⟨⟨rfl,rfl,rfl,rfl,fun h=>h⟩,⟨rfl,rfl,rfl,rfl,fun h=>h⟩,⟨rfl,rfl,rfl,rfl,fun h=>h⟩,⟨rfl,rfl,fun _=>rfl⟩,⟨rfl,rfl,fun _=>rfl⟩,⟨rfl,rfl,rfl,rfl,fun h=>h⟩,⟨rfl,rfl,rfl,rfl,fun h=>h⟩,trivial⟩,rfl,rfl,rfl,rfl⟩
  ·apply hexit
   have e:=en (by rw[← hA2];assumption) (by rw[← hA3];assumption)
   have eq:=SE A hA
   clear hexit hnext hret st en
   cbv
   repeat' first | (with_reducible intro hb;cbv) | with_reducible refine And.intro ?_ ?_
   ·exact e.i1
   ·exact e.i2
   refine hk _ _ (bW.pure rfl rfl fun ρ=>dB ?_)
   exact(congrArg (fun z=>A.cmp .eql z (U.check V S l)) e.ck).trans (eq.i _)
end Go.Eng

