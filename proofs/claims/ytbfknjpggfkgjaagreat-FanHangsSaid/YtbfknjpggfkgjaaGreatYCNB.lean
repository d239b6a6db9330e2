
import Derived.Test.YtbfknjpggfkgjaaGreatYCNA
import Derived.Test.YtbfknjpggfkgjaaGreatSpecNA
set_option linter.all false
set_option exponentiation.threshold 3000
set_option maxRecDepth 100000
set_option maxHeartbeats 4000000
namespace Go.Eng
open Go.Proofs
structure Iw (A:Alg) (V:SV) (Vl:List Int) (n m Vn U0:Nat) (me i j1 j2 m2:Int) (M W:List Int) (q:Dg) (g:Int):Prop where
 a1:A.cmp .leq 0 j1=true
 a2:A.cmp .leq j1 (A.len M)=true
 a3:A.cmp .leq (A.len M) (A.len M)=true
 a4:A.cmp .leq 0 0=true
 a5:A.cmp .leq me (A.len Vl)=true
 a6:A.cmp .leq 0 m2=true
 a7:A.cmp .leq m2 (A.isub me 0)=true
 a8:A.cmp .leq (A.iadd 0 (A.isub me 0)) me=true
 a9:A.cmp .lss (A.iadd 0 m2) (A.len Vl)=true
 a10:A.cmp .leq 0 (A.iadd 0 m2)=true
 a11:A.cmp .leq (A.iadd 0 m2) (A.iadd 0 (A.isub me 0))=true
 a12:A.cmp .leq (A.iadd 0 (A.isub me 0)) (A.len Vl)=true
 a13:V.guessOK (A.sub M j1 (A.len M)) (A.sub Vl (A.iadd 0 m2) (A.iadd 0 (A.isub me 0)))=true
 b1:A.cmp .leq 0 i=true
 b2:A.cmp .leq i j2=true
 b3:A.cmp .leq j2 (A.len M)=true
 b4:A.cmp .leq 0 me=true
 b5:A.cmp .eql (A.isub j2 i) (A.iadd (A.len W) 1)=true
 b6:A.all32 M=true
 b7:A.all32 W=true
 b8:A.cmp .leq (A.len M) 1000=true
 b9:A.cmp .leq 0 g=true
 b10:A.cmp .leq g 4294967295=true
 c3:A.cmp .leq j2 (A.len (V.takesL M i j2 W g))=true
 c6:A.all32 (V.takesL M i j2 W g)=true
 c8:A.cmp .leq (A.len (V.takesL M i j2 W g)) 1000=true
 d1:A.cmp .lss i 32=true
 e1:A.cmp .leq 0 (A.wrap .u32 g)=true
 e2:A.cmp .lss (A.wrap .u32 g) 4294967296=true
 e3:A.cmp .leq 0 (A.wrap .u32 (A.bin .sub .u64 g 1))=true
 e4:A.cmp .lss (A.wrap .u32 (A.bin .sub .u64 g 1)) 4294967296=true
 n1:A.not (V.takesB M i j2 W g)=false→DvI Vl n m Vn U0 (i - 1) (V.takesL M i j2 W g) (A.setD q i (A.wrap .u32 g))
 n2:A.not (V.takesB M i j2 W g)=true→DvI Vl n m Vn U0 (i - 1) (V.givesL (V.takesL M i j2 W g) i j2 W) (A.setD q i (A.wrap .u32 (A.bin .sub .u64 g 1)))
 ad:A.bin .sub .i64 i 1=i - 1
 ms:(i - 1+1).toNat < (i+1).toNat
theorem Fz {Vl:List Int} {n m Vn U0:Nat} {i:Int} {M:List Int} {q:Dg} (h:AI Vl n m Vn) (hI:DvI Vl n m Vn U0 i M q) (A:Alg) (hA:A=aA) (V:SV) (hV:V=aS) (me:Int) (hme:me=m) (hb:A.cmp .geq i 0=true)
  (j1 j2 m2:Int) (W:List Int) (g:Int) (hj1:j1=A.bin .sub .i64 (A.bin .add .i64 i me) 2) (hj2:j2=A.bin .add .i64 (A.bin .add .i64 i me) 1) (hm2:m2=A.bin .sub .i64 me 2) (hW:W=A.sub Vl 0 me)
  (hg:g=V.guess (A.sub M j1 (A.len M)) (A.sub Vl (A.iadd 0 m2) (A.iadd 0 (A.isub me 0)))):Iw A V Vl n m Vn U0 me i j1 j2 m2 M W q g:=by
 subst hA hV hme
 have hi:0≤i:=of_decide_eq_true hb
 obtain⟨w1,w2,w3,w4,g1,g2,gok⟩:=hI.win h hi
 have hnext:= @DvI.next Vl n m Vn U0 i M q h hI hi
 have hVt:=BV h
 obtain⟨k2,kmn,kn32,wv,lv,vv,lt,ge⟩:=h
 have hi1:=hI.i1
 have lm:=hI.lm
 have wm:=hI.wm
 clear hI
 have ej1:j1=i+m - 2:=by rw[hj1];show aD .sub .i64 (aD .add .i64 i m) 2=_;simp only[aD,IntKind.wrap_i64];omega
 have ej2:j2=i+m+1:=by rw[hj2];show aD .add .i64 (aD .add .i64 i m) 1=_;simp only[aD,IntKind.wrap_i64];omega
 have em2:m2=(m:Int) - 2:=by rw[hm2];show aD .sub .i64 (m:Int) 2=_;simp only[aD,IntKind.wrap_i64];omega
 clear hj1 hj2 hm2
 have eW:W=Vl.take m:=by rw[hW];show(Vl.take (m:Int).toNat).drop 0=_;rw[Int.toNat_natCast,List.drop_zero]
 have eU:aA.sub M j1 (aA.len M)=M.drop (i.toNat+m - 2):=by
  show(M.take (M.length:Int).toNat).drop j1.toNat=_
  rw[Int.toNat_natCast,List.take_length];congr 1;omega
 have eV:aA.sub Vl (aA.iadd 0 m2) (aA.iadd 0 (aA.isub (m:Int) 0))=(Vl.take m).drop (m - 2):=by
  show(Vl.take (0+((m:Int) - 0)).toNat).drop (0+m2).toNat=_
  rw[show(0+((m:Int) - 0)).toNat=m by omega,show(0+m2).toNat=m - 2 by omega]
 rw[eU,eV] at hg
 have eg:g=((jC (M.drop (i.toNat+m - 2)) ((Vl.take m).drop (m - 2)):Nat):Int):=hg
 obtain⟨T,hT⟩: ∃ T,T=jC (M.drop (i.toNat+m - 2)) ((Vl.take m).drop (m - 2)):=⟨_,rfl⟩
 have hTB:T≤4294967295:=by rw[hT];exact Nat.min_le_left _ _
 rw[← hT] at eg g1 g2
 clear hg hT
 have hml:aA.len M=(n:Int)+1:=by show(M.length:Int)=_;rw[lm];simp
 have hvl:aA.len Vl=(m:Int)+1:=by show(Vl.length:Int)=_;rw[lv];simp
 have hwl:W.length=m:=by rw[eW,List.length_take];omega
 have hwl':aA.len W=(m:Int):=by show(W.length:Int)=_;rw[hwl]
 have hVv:aM W=Vn:=by rw[eW];exact hVt
 have hj2n:j2.toNat=i.toNat+m+1:=by omega
 have hj2i:j2.toNat - i.toNat=m+1:=by omega
 have hV0:0 < Vn:=Nat.lt_of_lt_of_le (Nat.two_pow_pos _) ge
 have hle:i.toNat≤j2.toNat:=by omega
 have hjl:j2.toNat≤M.length:=by omega
 rw[← hj2n] at w1 w4
 have hBV:Vn < 2 ^ (32*(m+1)):=Nat.lt_of_lt_of_le (Nat.lt_of_lt_of_le (by omega:Vn < Vn*2 ^ 32) w3) (Nat.le_refl _)
 obtain⟨w,hw⟩: ∃ w,w=aM M / 2 ^ (32*i.toNat):=⟨_,rfl⟩
 rw[← hw] at w1 w2 g1 g2 hnext
 have hwB:w < 2 ^ (32*(m+1)):=Nat.lt_of_lt_of_le w2 w3
 obtain⟨X1,hX1⟩: ∃ X,X=(2 ^ (32*(m+1))*2 ^ 64+w - T*Vn) % 2 ^ (32*(m+1)):=⟨_,rfl⟩
 have hX1lt:X1 < 2 ^ (32*(j2.toNat - i.toNat)):=by rw[hj2i,hX1];exact Nat.mod_lt _ (Nat.two_pow_pos _)
 have eT:aS.takesL M i j2 W g=wY M i.toNat j2.toNat (iM X1 (j2.toNat - i.toNat)):=by
  show wY M i.toNat j2.toNat (iM ((2 ^ (32*(W.length+1))*2 ^ 64+wZ M i.toNat j2.toNat - g.toNat*aM W) % 2 ^ (32*(W.length+1))) (W.length+1))=_
  rw[hwl,w1,hVv,eg,Int.toNat_natCast, ← hX1,hj2i]
 have eB:aS.takesB M i j2 W g=decide (T*Vn≤w):=by
  show decide (g.toNat*aM W≤wZ M i.toNat j2.toNat)=_
  rw[hVv,w1,eg,Int.toNat_natCast]
 have hl1:=AE M i.toNat j2.toNat X1 hle hjl
 have hw1:=AD wm i.toNat j2.toNat X1 (j2.toNat - i.toNat)
 have hv1:=wU wm i.toNat j2.toNat X1 hle hjl hX1lt
 rw[w4,Nat.mul_zero,Nat.add_zero] at hv1
 have hlM1:aA.len (aS.takesL M i j2 W g)=(n:Int)+1:=by rw[eT];show((wY M i.toNat j2.toNat (iM X1 (j2.toNat - i.toNat))).length:Int)=_;rw[hl1,lm];simp
 have ewg:aA.wrap .u32 g=g:=by show IntKind.u32.wrap g=g;rw[IntKind.wrap_u32];omega
 have hw32:0≤aA.wrap .u32 (aA.bin .sub .u64 g 1)∧aA.wrap .u32 (aA.bin .sub .u64 g 1) < 4294967296:=by
  show 0≤IntKind.u32.wrap (aD .sub .u64 g 1)∧IntKind.u32.wrap (aD .sub .u64 g 1) < 4294967296
  rw[IntKind.wrap_u32];omega
 have dv1:=Nat.div_mul_le_self w Vn
 have dv2:w < (w / Vn+1)*Vn:=by
  have:=Nat.mod_lt w hV0
  have e:=Nat.div_add_mod w Vn
  rw[Nat.add_mul,Nat.one_mul,Nat.mul_comm (w / Vn)]
  omega
 exact {
  a1:=decide_eq_true (show 0≤j1 by omega)
  a2:=by rw[hml];exact decide_eq_true (show j1≤(n:Int)+1 by omega)
  a3:=by rw[hml];exact decide_eq_true (Int.le_refl _)
  a4:=decide_eq_true (Int.le_refl 0)
  a5:=by rw[hvl];exact decide_eq_true (show(m:Int)≤m+1 by omega)
  a6:=decide_eq_true (show 0≤m2 by omega)
  a7:=decide_eq_true (show m2≤(m:Int) - 0 by omega)
  a8:=decide_eq_true (show 0+((m:Int) - 0)≤m by omega)
  a9:=by rw[hvl];exact decide_eq_true (show 0+m2 < (m:Int)+1 by omega)
  a10:=decide_eq_true (show 0≤0+m2 by omega)
  a11:=decide_eq_true (show 0+m2≤0+((m:Int) - 0) by omega)
  a12:=by rw[hvl];exact decide_eq_true (show 0+((m:Int) - 0)≤(m:Int)+1 by omega)
  a13:=by
   rw[eU,eV]
   simp only[aS,Bool.and_eq_true,decide_eq_true_eq]
   exact⟨⟨⟨⟨⟨gok.lu,gok.lv⟩,gok.v1⟩,gok.uv⟩,gok.wu.all'⟩,gok.wv.all'⟩
  b1:=decide_eq_true hi
  b2:=decide_eq_true (show i≤j2 by omega)
  b3:=by rw[hml];exact decide_eq_true (show j2≤(n:Int)+1 by omega)
  b4:=decide_eq_true (show(0:Int)≤m by omega)
  b5:=by
   show(j2 - i == aA.len W+1)=true
   rw[hwl',beq_iff_eq];omega
  b6:=wm.all'
  b7:=by rw[eW];exact(wv.take m).all'
  b8:=by rw[hml];exact decide_eq_true (show(n:Int)+1≤1000 by omega)
  b9:=decide_eq_true (show 0≤g by omega)
  b10:=decide_eq_true (show g≤4294967295 by omega)
  c3:=by rw[hlM1];exact decide_eq_true (show j2≤(n:Int)+1 by omega)
  c6:=by rw[eT];exact hw1.all'
  c8:=by rw[hlM1];exact decide_eq_true (show(n:Int)+1≤1000 by omega)
  d1:=decide_eq_true (show i < 32 by omega)
  e1:=by rw[ewg];exact decide_eq_true (show 0≤g by omega)
  e2:=by rw[ewg];exact decide_eq_true (show g < 4294967296 by omega)
  e3:=decide_eq_true hw32.1
  e4:=decide_eq_true hw32.2
  n1:=fun hn=>by
   have hn:(!aS.takesB M i j2 W g)=false:=hn
   rw[eB,Bool.not_eq_false',decide_eq_true_eq] at hn
   have hTq:T=w / Vn:=by
    rcases Nat.lt_or_ge (w / Vn) T with hlt | hge
    ·exfalso
     have:(w / Vn+1)*Vn≤T*Vn:=Nat.mul_le_mul_right _ hlt
     omega
    ·omega
   have hX:X1=w - w / Vn*Vn:=by
    rw[hX1,hTq,show 2 ^ (32*(m+1))*2 ^ 64+w - w / Vn*Vn=(w - w / Vn*Vn)+2 ^ (32*(m+1))*2 ^ 64 by omega,Nat.add_mul_mod_self_left]
    exact Nat.mod_eq_of_lt (by omega)
   rw[hX] at hv1 hl1 hw1
   obtain⟨r1,r2⟩:=hnext hl1 hw1 hv1
   rw[eT,hX,ewg]
   have:aA.setD q i g=q.set i.toNat (w / Vn):=by
    show q.set i.toNat g.toNat=_
    rw[eg,Int.toNat_natCast,hTq]
   rw[this]
   exact r1
  n2:=fun hn=>by
   have hn:(!aS.takesB M i j2 W g)=true:=hn
   rw[eB,Bool.not_eq_true',decide_eq_false_iff_not] at hn
   have hTq:T=w / Vn+1:=by
    rcases Nat.lt_or_ge (w / Vn) T with hlt | hge
    ·omega
    ·exfalso
     have:T*Vn≤w / Vn*Vn:=Nat.mul_le_mul_right _ hge
     omega
   have e1:(w / Vn+1)*Vn=w / Vn*Vn+Vn:=by rw[Nat.add_mul,Nat.one_mul]
   have hX:X1=2 ^ (32*(m+1))+w - T*Vn:=by
    rw[hX1]
    have:2 ^ (32*(m+1))*2 ^ 64+w - T*Vn=(2 ^ (32*(m+1))+w - T*Vn)+2 ^ (32*(m+1))*(2 ^ 64 - 1):=by
     rw[hTq,e1] at hn ⊢
     generalize 2 ^ (32*(m+1))=B at *
     omega
    rw[this,Nat.add_mul_mod_self_left]
    exact Nat.mod_eq_of_lt (by rw[hTq,e1] at hn ⊢;omega)
   obtain⟨M1,hM1⟩: ∃ M1,M1=wY M i.toNat j2.toNat (iM X1 (j2.toNat - i.toNat)):=⟨_,rfl⟩
   rw[← hM1] at hl1 hw1 hv1 eT
   have hP:=Nat.two_pow_pos (32*i.toNat)
   have hM1d:aM M1 / 2 ^ (32*i.toNat)=X1:=by
    rw[hv1,Nat.add_mul_div_left _ _ hP,Nat.div_eq_of_lt (Nat.mod_lt _ hP),Nat.zero_add]
   have hM1m:aM M1 % 2 ^ (32*i.toNat)=aM M % 2 ^ (32*i.toNat):=by
    rw[hv1,Nat.add_mul_mod_self_left,Nat.mod_mod]
   have hM1h:aM M1 / 2 ^ (32*j2.toNat)=0:=by
    have:2 ^ (32*j2.toNat)=2 ^ (32*i.toNat)*2 ^ (32*(j2.toNat - i.toNat)):=by rw[← Nat.pow_add];congr 1;omega
    rw[this, ← Nat.div_div_eq_div_mul,hM1d]
    exact Nat.div_eq_of_lt hX1lt
   have wM1:wZ M1 i.toNat j2.toNat=X1:=by
    rw[E0 hw1 _ _ hle (by omega),hM1d,Nat.mod_eq_of_lt hX1lt]
   have hX2:(X1+Vn) % 2 ^ (32*(m+1))=w - w / Vn*Vn:=by
    have:X1+Vn=(w - w / Vn*Vn)+2 ^ (32*(m+1))*1:=by
     rw[hX,hTq,e1] at *
     generalize 2 ^ (32*(m+1))=B at *
     omega
    rw[this,Nat.add_mul_mod_self_left]
    exact Nat.mod_eq_of_lt (by omega)
   have eG:aS.givesL (aS.takesL M i j2 W g) i j2 W=wY M1 i.toNat j2.toNat (iM (w - w / Vn*Vn) (j2.toNat - i.toNat)):=by
    rw[eT]
    show wY M1 i.toNat j2.toNat (iM ((wZ M1 i.toNat j2.toNat+aM W) % 2 ^ (32*(W.length+1))) (W.length+1))=_
    rw[hwl,wM1,hVv,hX2,hj2i]
   have hlt2:w - w / Vn*Vn < 2 ^ (32*(j2.toNat - i.toNat)):=by rw[hj2i];omega
   have hv2:=wU hw1 i.toNat j2.toNat _ hle (by omega) hlt2
   rw[hM1h,Nat.mul_zero,Nat.add_zero,hM1m] at hv2
   have hl2:=AE M1 i.toNat j2.toNat (w - w / Vn*Vn) hle (by omega)
   obtain⟨r1,r2⟩:=hnext (hl2.trans hl1) (AD hw1 _ _ _ _) hv2
   rw[eG]
   have:aA.setD q i (aA.wrap .u32 (aA.bin .sub .u64 g 1))=q.set i.toNat (w / Vn):=by
    show q.set i.toNat (IntKind.u32.wrap (IntKind.u64.wrap (g - 1))).toNat=_
    rw[eg,hTq]
    congr 1
    generalize w / Vn=c at *
    rw[IntKind.wrap_u32,cX]
    omega
   rw[this]
   exact r1
  ad:=by show aD .sub .i64 i 1=i - 1;simp only[aD,IntKind.wrap_i64];omega
  ms:=by omega }
structure Iv (A:Alg) (V:SV) (d e:Dg) (ne me s:Int):Prop where
 o1:A.cmp .leq 0 (A.bin .sub .i64 me 1)=true
 o2:A.cmp .lss (A.bin .sub .i64 me 1) 32=true
 o3:A.cmp .leq 0 (A.dig e (A.bin .sub .i64 me 1))=true
 o4:A.cmp .lss (A.dig e (A.bin .sub .i64 me 1)) 4294967296=true
 o5:A.cmp .leq 0 0=true
 o6:A.cmp .leq 0 ne=true
 o7:A.cmp .leq ne 32=true
 o8:A.cmp .leq 0 s=true
 o9:A.cmp .lss s 32=true
 o10:A.all32 (A.digs d 0 ne)=true
 o11:A.cmp .leq (A.len (A.digs d 0 ne)) 64=true
 o12:A.cmp .leq 0 me=true
 o13:A.cmp .leq me 32=true
 o14:A.all32 (A.digs e 0 me)=true
 o15:A.cmp .leq (A.len (A.digs e 0 me)) 64=true
 o16:A.cmp .leq me (A.len (V.shl (A.digs e 0 me) s))=true
 ok:AI (V.shl (A.digs e 0 me) s) (bA d) (bA e) (2 ^ s.toNat*e.n)
 inv:DvI (V.shl (A.digs e 0 me) s) (bA d) (bA e) (2 ^ s.toNat*e.n) (2 ^ s.toNat*d.n) (A.bin .sub .i64 ne me) (V.shl (A.digs d 0 ne) s) Dg.zero
 s0:0≤s
 s1:s < 32
theorem jY (z:Int) (h1:0≤z) (h2:z < 4294967296):aA.cmp .leq 0 z=true∧aA.cmp .lss z 4294967296=true:=⟨decide_eq_true h1,decide_eq_true h2⟩
theorem Ao (d:Dg) (k:Nat) (s:Int) (hk:d.n < 2 ^ (32*k)) (hs:s.toNat≤32):aS.shl (aA.digs d 0 k) s=iM (2 ^ s.toNat*d.n) (k+1)∧2 ^ s.toNat*d.n < 2 ^ (32*(k+1)):=by
 constructor
 ·show iM (2 ^ s.toNat*aM (aA.digs d 0 k)) ((aA.digs d 0 k).length+1)=_
  rw[qB,Int.toNat_natCast,cD,gX _ _ hk]
 ·rw[show 32*(k+1)=32+32*k by omega,Nat.pow_add]
  exact Nat.lt_of_le_of_lt (Nat.mul_le_mul_right _ (Nat.pow_le_pow_right (by decide) hs)) (Nat.mul_lt_mul_of_pos_left hk (by decide))
theorem zI (d e:Dg) (h2:2 ^ 32≤e.n) (hle:e.n≤d.n) (A:Alg) (hA:A=aA) (V:SV) (hV:V=aS) (ne me s:Int) (hne:ne=bA d) (hme:me=bA e) (hs:s=V.lz (A.dig e (A.bin .sub .i64 me 1))):Iv A V d e ne me s:=by
 subst hA hV hne hme
 obtain⟨p1,p2,p3,p4⟩:=i9 e (by omega)
 obtain⟨q1,q2,q3,q4⟩:=i9 d (by omega)
 have hm2:2≤bA e:=by
  have:=dA e 1
  rcases Nat.lt_or_ge (bA e) 2 with h | h
  ·have h1:=this.1 (by omega)
   rw[show 32*1=32 from rfl] at h1
   omega
  ·exact h
 have hmn:bA e≤bA d:=(dA e (bA d)).2 (Nat.lt_of_le_of_lt hle q3)
 generalize hm:bA e=m at *
 generalize hn:bA d=n at *
 have e1:aA.bin .sub .i64 (m:Int) 1=(m:Int) - 1:=by show aD .sub .i64 (m:Int) 1=_;simp only[aD,IntKind.wrap_i64];omega
 have etop:aA.dig e (aA.bin .sub .i64 (m:Int) 1)=((e.n / 2 ^ (32*(m - 1)):Nat):Int):=by
  rw[e1]
  show((e.dig ((m:Int) - 1).toNat:Nat):Int)=_
  rw[show((m:Int) - 1).toNat=m - 1 by omega]
  unfold Dg.dig
  rw[Nat.mod_eq_of_lt]
  rw[Nat.div_lt_iff_lt_mul (Nat.two_pow_pos _), ← Nat.pow_add,show 32+32*(m - 1)=32*m by omega]
  exact p3
 obtain⟨t,ht⟩: ∃ t,t=e.n / 2 ^ (32*(m - 1)):=⟨_,rfl⟩
 have ht1:1≤t:=by rw[ht];exact Nat.div_pos p4 (Nat.two_pow_pos _)
 have ht2:t < 2 ^ 32:=by
  rw[ht,Nat.div_lt_iff_lt_mul (Nat.two_pow_pos _), ← Nat.pow_add,show 32+32*(m - 1)=32*m by omega]
  exact p3
 rw[← ht] at etop
 rw[etop] at hs
 have hs':s=32 - ((bP t:Nat):Int):=by rw[hs];show 32 - ((bP (t:Int).toNat:Nat):Int)=_;rw[Int.toNat_natCast]
 have hl1:bP t≤32:=iE t 32 ht2
 have hl0:1≤bP t:=by unfold bP;rw[if_neg (by omega)];omega
 have hlt:t < 2 ^ bP t:=by
  unfold bP;rw[if_neg (by omega)]
  exact Nat.lt_log2_self
 have hs0:s.toNat=32 - bP t:=by omega
 have heB:2 ^ s.toNat*e.n < 2 ^ (32*m):=by
  have hh:e.n < (t+1)*2 ^ (32*(m - 1)):=by
   have:=Nat.div_add_mod e.n (2 ^ (32*(m - 1)))
   have h3:=Nat.mod_lt e.n (Nat.two_pow_pos (32*(m - 1)))
   rw[← ht,Nat.mul_comm] at this
   rw[Nat.add_mul,Nat.one_mul];omega
  have h5:(t+1)*2 ^ (32*(m - 1))≤2 ^ bP t*2 ^ (32*(m - 1)):=Nat.mul_le_mul_right _ hlt
  have h6:2 ^ s.toNat*e.n < 2 ^ s.toNat*(2 ^ bP t*2 ^ (32*(m - 1))):=Nat.mul_lt_mul_of_pos_left (Nat.lt_of_lt_of_le hh h5) (Nat.two_pow_pos _)
  rw[← Nat.pow_add, ← Nat.pow_add,hs0,show 32 - bP t+(bP t+32*(m - 1))=32*m by omega, ← hs0] at h6
  exact h6
 obtain⟨sd1,sd2⟩:=Ao d n s q3 (by omega)
 obtain⟨se1,se2⟩:=Ao e m s p3 (by omega)
 have hge:2 ^ (32*(m - 1))≤2 ^ s.toNat*e.n:=Nat.le_trans p4 (Nat.le_mul_of_pos_left _ (Nat.two_pow_pos _))
 have elen: ∀ (x:Dg) (k:Nat),aA.len (aA.digs x 0 (k:Int))=(k:Int):=fun x k=>by
  show((aA.digs x 0 (k:Int)).length:Int)=_
  rw[qB,Int.toNat_natCast,cD]
 have eall: ∀ (x:Dg) (k:Nat),aA.all32 (aA.digs x 0 (k:Int))=true:=fun x k=>by
  rw[qB];exact(jK _ _).all'
 have enm:aA.bin .sub .i64 (n:Int) (m:Int)=(n:Int) - m:=by show aD .sub .i64 (n:Int) (m:Int)=_;simp only[aD,IntKind.wrap_i64];omega
 rw[← hs] at *
 exact {
  o1:=by rw[e1];exact decide_eq_true (show(0:Int)≤m - 1 by omega)
  o2:=by rw[e1];exact decide_eq_true (show(m:Int) - 1 < 32 by omega)
  o3:=by rw[etop];exact decide_eq_true (show(0:Int)≤t by omega)
  o4:=by rw[etop];exact(jY _ (by omega) (by omega)).2
  o5:=decide_eq_true (Int.le_refl 0)
  o6:=decide_eq_true (show(0:Int)≤n by omega)
  o7:=decide_eq_true (show(n:Int)≤32 by omega)
  o8:=decide_eq_true (show 0≤s by omega)
  o9:=decide_eq_true (show s < 32 by omega)
  o10:=eall d n
  o11:=by rw[elen];exact decide_eq_true (show(n:Int)≤64 by omega)
  o12:=decide_eq_true (show(0:Int)≤m by omega)
  o13:=decide_eq_true (show(m:Int)≤32 by omega)
  o14:=eall e m
  o15:=by rw[elen];exact decide_eq_true (show(m:Int)≤64 by omega)
  o16:=by
   rw[se1]
   show decide ((m:Int)≤((iM (2 ^ s.toNat*e.n) (m+1)).length:Int))=true
   rw[cD];exact decide_eq_true (by omega)
  ok:=by
   rw[hm,hn,se1]
   exact⟨hm2,hmn,q2,jK _ _,cD _ _,gX _ _ se2,heB,hge⟩
  inv:=by
   rw[hm,hn,se1,sd1,enm]
   refine⟨by omega,by omega,cD _ _,jK _ _,?_,?_,?_⟩
   ·rw[gX _ _ sd2];simp[Dg.zero]
   ·simp[Dg.zero]
   ·rw[gX _ _ sd2,Nat.div_lt_iff_lt_mul (Nat.two_pow_pos _),show((n:Int) - m+1).toNat=n - m+1 by omega]
    have h1:2 ^ s.toNat*d.n < 2 ^ s.toNat*2 ^ (32*n):=Nat.mul_lt_mul_of_pos_left q3 (Nat.two_pow_pos _)
    have h2:2 ^ s.toNat*2 ^ (32*(m - 1))≤2 ^ s.toNat*e.n:=Nat.mul_le_mul_left _ p4
    have h3:=Nat.mul_le_mul_right (2 ^ (32*(n - m+1))) h2
    rw[Nat.mul_assoc, ← Nat.pow_add,show 32*(m - 1)+32*(n - m+1)=32*n by omega] at h3
    exact Nat.lt_of_lt_of_le h1 h3
  s0:=by omega
  s1:=by omega }
theorem I0 {Vl:List Int} {n m:Nat} {s:Int} {d e:Dg} {i:Int} {M:List Int} {q:Dg} (h:AI Vl n m (2 ^ s.toNat*e.n)) (hI:DvI Vl n m (2 ^ s.toNat*e.n) (2 ^ s.toNat*d.n) i M q) (hi: ¬ 0≤i) :
  q.n=d.n / e.n∧aM M / 2 ^ s.toNat=d.n % e.n∧d.n % e.n < 2 ^ (32*m):=by
 obtain⟨i0,i1,lm,wm,sum,low,top⟩:=hI
 have hi1:i= -1:=by omega
 subst hi1
 have ht:aM M < 2 ^ s.toNat*e.n:=by simpa using top
 have hP:=Nat.two_pow_pos s.toNat
 have hd:d.n=aM M / 2 ^ s.toNat+q.n*e.n:=by
  have e1:q.n*(2 ^ s.toNat*e.n)=2 ^ s.toNat*(q.n*e.n):=by rw[← Nat.mul_assoc,Nat.mul_comm q.n,Nat.mul_assoc]
  rw[e1] at sum
  have:=Nat.add_mul_div_left (aM M) (q.n*e.n) hP
  rw[sum,Nat.mul_div_cancel_left _ hP] at this
  exact this
 have hr:aM M / 2 ^ s.toNat < e.n:=by rw[Nat.div_lt_iff_lt_mul hP,Nat.mul_comm];exact ht
 have he:0 < e.n:=Nat.lt_of_le_of_lt (Nat.zero_le _) hr
 have hlt:=h.lt
 have hm:e.n < 2 ^ (32*m):=Nat.lt_of_le_of_lt (Nat.le_mul_of_pos_left _ hP) hlt
 generalize aM M / 2 ^ s.toNat=r at *
 have hdm:d.n / e.n=q.n∧d.n % e.n=r:=by
  rw[hd,Nat.add_mul_div_right _ _ he,Nat.add_mul_mod_self_right,Nat.div_eq_of_lt hr,Nat.mod_eq_of_lt hr]
  exact⟨by omega,rfl⟩
 exact⟨hdm.1.symm,hdm.2.symm,by rw[hdm.2];omega⟩
def RmI (M:List Int) (m:Nat) (s:Int) (j:Int) (r:Dg):Prop:=0≤j∧j≤m∧r.n=aM M / 2 ^ s.toNat % 2 ^ (32*j.toNat)
structure MR (A:Alg) (M:List Int) (m:Nat) (s j:Int) (r:Dg):Prop where
 o1:A.cmp .leq 0 j=true
 o2:A.cmp .lss j (A.len M)=true
 o3:A.cmp .leq 0 (A.bin .add .i64 j 1)=true
 o4:A.cmp .lss (A.bin .add .i64 j 1) (A.len M)=true
 o5:A.cmp .geq s 0=true
 o6:A.cmp .lss j 32=true
 o7:A.cmp .leq 0 (A.wrap .u32 (A.bin .and .u64 (A.bin .shr .u64 (A.bin .or .u64 (A.bin .shl .u64 (A.wrap .u64 (A.get M (A.bin .add .i64 j 1) 0)) 32) (A.wrap .u64 (A.get M j 0))) s) 4294967295))=true
 o8:A.cmp .lss (A.wrap .u32 (A.bin .and .u64 (A.bin .shr .u64 (A.bin .or .u64 (A.bin .shl .u64 (A.wrap .u64 (A.get M (A.bin .add .i64 j 1) 0)) 32) (A.wrap .u64 (A.get M j 0))) s) 4294967295)) 4294967296=true
 nx:RmI M m s (j+1) (A.setD r j (A.wrap .u32 (A.bin .and .u64 (A.bin .shr .u64 (A.bin .or .u64 (A.bin .shl .u64 (A.wrap .u64 (A.get M (A.bin .add .i64 j 1) 0)) 32) (A.wrap .u64 (A.get M j 0))) s) 4294967295)))
 ad:A.bin .add .i64 j 1=j+1
 ms:((m:Int) - (j+1)).toNat < ((m:Int) - j).toNat
theorem Ld {M:List Int} {n m:Nat} {s j:Int} {r:Dg} (hM:M.length=n+1) (hmn:m≤n) (hn:n≤32) (hW:W32 M) (s0:0≤s) (s1:s < 32) (hI:RmI M m s j r) (A:Alg) (hA:A=aA) (me:Int) (hme:me=m) (hb:A.cmp .lss j me=true):MR A M m s j r:=by
 subst hA hme
 have hb:j < (m:Int):=of_decide_eq_true hb
 obtain⟨j0,j1,hr⟩:=hI
 have hml:aA.len M=(n:Int)+1:=by show(M.length:Int)=_;rw[hM];simp
 have e1:aA.bin .add .i64 j 1=j+1:=by show aD .add .i64 j 1=j+1;simp only[aD,IntKind.wrap_i64];omega
 have hj1:(j+1).toNat=j.toNat+1:=by omega
 obtain⟨a0,a1⟩:=hW.getD (j.toNat+1)
 obtain⟨b0,b1⟩:=hW.getD j.toNat
 obtain⟨Y,hY⟩: ∃ Y,Y=aM M / 2 ^ (32*j.toNat):=⟨_,rfl⟩
 have g0:M.getD j.toNat 0=((Y % 2 ^ 32:Nat):Int):=by rw[hY];exact jL hW (by omega)
 have g1:M.getD (j.toNat+1) 0=((Y / 2 ^ 32 % 2 ^ 32:Nat):Int):=by
  rw[jL hW (by omega),hY,Nat.div_div_eq_div_mul, ← Nat.pow_add]
  rfl
 have ej:M.getD (j.toNat+1) 0*4294967296+M.getD j.toNat 0=((Y % 2 ^ 64:Nat):Int):=by rw[g0,g1];omega
 have ev:aA.wrap .u32 (aA.bin .and .u64 (aA.bin .shr .u64 (aA.bin .or .u64 (aA.bin .shl .u64 (aA.wrap .u64 (aA.get M (aA.bin .add .i64 j 1) 0)) 32) (aA.wrap .u64 (aA.get M j 0))) s) 4294967295)=((Y / 2 ^ s.toNat % 2 ^ 32:Nat):Int):=by
  rw[e1]
  show IntKind.u32.wrap (aD .and .u64 (aD .shr .u64 (aD .or .u64 (aD .shl .u64 (IntKind.u64.wrap (M.getD (j+1).toNat 0)) 32) (IntKind.u64.wrap (M.getD j.toNat 0))) s) 4294967295)=_
  rw[hj1,eR _ a0 (by omega),eR _ b0 (by omega),Hc _ a0 a1,zU _ _ a0 a1 b0 b1,ej]
  have esh:aD .shr .u64 ((Y % 2 ^ 64:Nat):Int) s=((Y % 2 ^ 64 / 2 ^ s.toNat:Nat):Int):=by
   show((Y % 2 ^ 64:Nat):Int).fdiv (2 ^ min s.toNat 64)=_
   rw[Nat.min_eq_left (by omega),Int.natCast_ediv,Int.fdiv_eq_ediv_of_nonneg _ (Int.pow_nonneg (by decide))]
   simp
  have hlt:Y % 2 ^ 64 / 2 ^ s.toNat < 2 ^ 64:=Nat.lt_of_le_of_lt (Nat.div_le_self _ _) (Nat.mod_lt _ (by decide))
  rw[esh,pL _ (Int.natCast_nonneg _) (by omega)]
  have e2:Y % 2 ^ 64 / 2 ^ s.toNat % 2 ^ 32=Y / 2 ^ s.toNat % 2 ^ 32:=by
   have:(2:Nat) ^ 64=2 ^ s.toNat*2 ^ (64 - s.toNat):=by rw[← Nat.pow_add];congr 1;omega
   rw[this,Nat.mod_mul_right_div_self,Nat.mod_mod_of_dvd _ (Nat.pow_dvd_pow 2 (by omega))]
  rw[← e2]
  omega
 have hdg:Y / 2 ^ s.toNat=aM M / 2 ^ s.toNat / 2 ^ (32*j.toNat):=by rw[hY,Nat.div_div_eq_div_mul,Nat.div_div_eq_div_mul,Nat.mul_comm]
 have hrl:r.n < 2 ^ (32*j.toNat):=by rw[hr];exact Nat.mod_lt _ (Nat.two_pow_pos _)
 exact {
  o1:=decide_eq_true j0
  o2:=by rw[hml];exact decide_eq_true (show j < (n:Int)+1 by omega)
  o3:=by rw[e1];exact decide_eq_true (show 0≤j+1 by omega)
  o4:=by rw[hml,e1];exact decide_eq_true (show j+1 < (n:Int)+1 by omega)
  o5:=decide_eq_true s0
  o6:=decide_eq_true (show j < 32 by omega)
  o7:=by rw[ev];exact @decide_eq_true (0≤((Y / 2 ^ s.toNat % 2 ^ 32:Nat):Int)) _ (Int.natCast_nonneg _)
  o8:=by rw[ev];exact(jY _ (Int.natCast_nonneg _) (by omega)).2
  nx:=by
   refine⟨by omega,by omega,?_⟩
   rw[ev,hj1]
   show(r.set j.toNat ((Y / 2 ^ s.toNat % 2 ^ 32:Nat):Int).toNat).n=_
   rw[Int.toNat_natCast,Dg.set_top r j.toNat _ (by omega) (Nat.mod_lt _ (by decide)) hrl,hr,hdg,cV,Nat.mod_mul]
  ad:=e1
  ms:=by omega }
theorem Ol {M:List Int} {m:Nat} {s j:Int} {r:Dg} {x:Nat} (hI:RmI M m s j r) (A:Alg) (hA:A=aA) (me:Int) (hme:me=m) (hb:A.cmp .lss j me=false) (hx:aM M / 2 ^ s.toNat=x) (hlt:x < 2 ^ (32*m)):r.n=x:=by
 subst hA hme
 have hb: ¬ j < (m:Int):=of_decide_eq_false hb
 obtain⟨j0,j1,hr⟩:=hI
 rw[hr,hx,show j.toNat=m by omega,Nat.mod_eq_of_lt hlt]
def aeZ (V:SV):List CV→List Blk→Option LR
 | [.s (.hp 0 0), .s (.hp 1 0)],[.fix false [.D d], .fix false [.D e]]=>some ⟨[V.two e,V.leD e d], .t [.s (.hp 2 0), .s (.hp 3 0)],[.fix true [.D (V.divQ d e)], .fix true [.D (V.divR d e)]]⟩
 | _,_=>none
theorem DD:aJ Tryz.prog 208 (aC [.pd, .pd] aA (aeZ aS)):=by
 refine aH (un:=⟨false,none⟩) tok Ax aL (fn:=Tryz.f208) ?_
 intro w Wr args bs r hg ho hWr A L k hA hL hk
 obtain⟨S,hS⟩:=exE aV
 obtain⟨V,hV⟩:=exE aS
 try rw[← hS]
 try rw[← hV]
 try rw[← hA]
 unfold aeZ at hg
 split at hg <;> cases hg
 rename_i d e
 have h2:2 ^ 32≤e.n:=of_decide_eq_true (aG ho).1
 have hle:e.n≤d.n:=of_decide_eq_true (aG (aG ho).2).1
 clear ho
 have init:=zI d e h2 hle A hA V hV (S.size d) (S.size e) _ (by subst hS;rfl) (by subst hS;rfl) rfl
 have initS:=zI d e h2 hle aA rfl aS rfl (aV.size d) (aV.size e) _ rfl rfl rfl
 obtain⟨Vl,hVl⟩: ∃ l,l=aS.shl (aA.digs e 0 (aV.size e)) (aS.lz (aA.dig e (aA.bin .sub .i64 (aV.size e) 1))):=⟨_,rfl⟩
 obtain⟨s,hs⟩: ∃ s,s=aS.lz (aA.dig e (aA.bin .sub .i64 (aV.size e) 1)):=⟨_,rfl⟩
 have hok:=initS.ok
 have hin:=initS.inv
 have s0:=initS.s0
 have s1:=initS.s1
 clear initS
 rw[← hVl, ← hs] at hok hin
 rw[← hs] at s0 s1
 cbv
 repeat' with_reducible first | (intro hb;cbv) | refine UM ?_ ?_
 all_goals first | exact init.o1 | exact init.o2 | exact init.o3 | exact init.o4 | exact init.o5 | exact init.o6 | exact init.o7 | exact init.o8 | exact init.o9 | exact init.o10 | exact init.o11 | exact init.o12 | exact init.o13 | exact init.o14 | exact init.o15 | exact init.o16 | skip
 clear init
 refine hL _ _ _ (aQ (un:=⟨false,some [13,9,10,7,8,11,12,14,45,69]⟩) tok Ax aL (fun p:Int×List Int×Dg=>⟨[(13,⟨[], .c (.s (.int .i64 p.1))⟩),(9,⟨[], .c (.s (.hs 2))⟩),(10,⟨[], .c (.s (.hw 3 1 0 (aV.size e)))⟩),(7,⟨[], .c (.s (.int .i64 (aV.size e)))⟩),(8,⟨[], .c (.s (.int .i64 s))⟩),(11,⟨[], .c (.s (.hp 4 0))⟩),(12,⟨[], .c (.s (.hp 5 0))⟩)],[(2, .vec true (.int .u32) p.2.1),(3, .vec true (.int .u32) Vl),(4, .fix true [.D p.2.2]),(5, .fix true [.D Dg.zero])],6⟩)
  (fun p=>DvI Vl (bA d) (bA e) (2 ^ s.toNat*e.n) (2 ^ s.toNat*d.n) p.1 p.2.1 p.2.2) (fun p=>(p.1+1).toNat) (_,_,_) hin ?_ (fun _ i hi=>by have:=hWr i hi;simp at this ⊢;omega) ?_)
 ·subst hA hV hS hs
  exact⟨⟨⟨rfl,rfl,fun _=>rfl⟩,⟨rfl,rfl,fun _=>rfl⟩,⟨rfl,rfl,fun _=>rfl⟩,⟨rfl,rfl,fun _=>rfl⟩,⟨rfl,rfl,fun _=>rfl⟩,⟨rfl,rfl,fun _=>rfl⟩,⟨rfl,rfl,fun _=>rfl⟩,trivial⟩,⟨aF rfl,leV hVl.symm,aF rfl,aF rfl,trivial⟩,rfl,rfl⟩
 clear hin hVl
 rintro⟨i,M,q⟩ hI A2 L2 k2 hA2 hL2 hnext hexit hret
 have st:=fun hb:A2.cmp .geq i 0=true=>Fz hok hI A2 hA2 V hV (S.size e) (by subst hS;rfl) hb _ _ _ _ _ rfl rfl rfl rfl rfl
 have fi:=fun hb: ¬ 0≤i=>I0 hok hI hb
 have hmn:=hok.mn
 have hn32:=hok.n32
 have hlM:=hI.lm
 have hWM:=hI.wm
 clear hok hI
 rw[← hA2, ← hS, ← hV]
 cbv
 repeat' with_reducible first | (intro hb;cbv) | refine UM ?_ ?_
 all_goals first | replace st:=st hb | (rename_i hb0;replace st:=st hb0) | skip
 all_goals first | exact st.a1 | exact st.a2 | exact st.a3 | exact st.a4 | exact st.a5 | exact st.a6 | exact st.a7 | exact st.a8 | exact st.a9 | exact st.a10 | exact st.a11 | exact st.a12 | exact st.a13 | exact st.b1 | exact st.b2 | exact st.b3 | exact st.b4 | exact st.b5 | exact st.b6 | exact st.b7 | exact st.b8 | exact st.b9 | exact st.b10 | exact st.c3 | exact st.c6 | exact st.c8 | exact st.d1 | exact st.e1 | exact st.e2 | exact st.e3 | exact st.e4 | skip
 ·refine hnext _ (i - 1,_,_) (st.n2 hb) st.ms ?_
  replace st:=st.ad
  subst hS
  exact⟨⟨⟨rfl,rfl,leI st⟩,⟨rfl,rfl,fun _=>rfl⟩,⟨rfl,rfl,fun _=>rfl⟩,⟨rfl,rfl,fun _=>rfl⟩,⟨rfl,rfl,fun _=>rfl⟩,⟨rfl,rfl,fun _=>rfl⟩,⟨rfl,rfl,fun _=>rfl⟩,trivial⟩,⟨leV rfl,aF rfl,leD rfl,aF rfl,trivial⟩,rfl,rfl⟩
 ·refine hnext _ (i - 1,_,_) (st.n1 hb) st.ms ?_
  replace st:=st.ad
  subst hS
  exact⟨⟨⟨rfl,rfl,leI st⟩,⟨rfl,rfl,fun _=>rfl⟩,⟨rfl,rfl,fun _=>rfl⟩,⟨rfl,rfl,fun _=>rfl⟩,⟨rfl,rfl,fun _=>rfl⟩,⟨rfl,rfl,fun _=>rfl⟩,⟨rfl,rfl,fun _=>rfl⟩,trivial⟩,⟨leV rfl,aF rfl,leD rfl,aF rfl,trivial⟩,rfl,rfl⟩
 ·apply hexit
  have hi: ¬ 0≤i:=by subst hA2;exact of_decide_eq_false hb
  obtain⟨f1,f2,f3⟩:=fi hi
  clear hexit hnext hret st fi hb
  have r0:RmI M (bA e) s 0 Dg.zero:=⟨Int.le_refl 0,Int.natCast_nonneg _,by simp[Dg.zero,Nat.mod_one]⟩
  cbv
  repeat' with_reducible first | (intro hb;cbv) | refine UM ?_ ?_
  refine hL _ _ _ (aQ (un:=⟨false,some [86,85,9,8,11,12,15,87]⟩) tok Ax aL (fun p:Int×Dg=>⟨[(86,⟨[], .c (.s (.int .i64 p.1))⟩),(85,⟨[], .c (.s (.int .i64 (aV.size e)))⟩),(9,⟨[], .c (.s (.hs 2))⟩),(8,⟨[], .c (.s (.int .i64 s))⟩),(11,⟨[], .c (.s (.hp 4 0))⟩),(12,⟨[], .c (.s (.hp 5 0))⟩)],[(2, .vec true (.int .u32) M),(4, .fix true [.D q]),(5, .fix true [.D p.2])],6⟩)
   (fun p=>RmI M (bA e) s p.1 p.2) (fun p=>((bA e:Int) - p.1).toNat) (0,Dg.zero) r0 ?_ (fun _ i hi=>by have:=hWr i hi;simp at this ⊢;omega) ?_)
  ·subst hS
   exact⟨⟨⟨rfl,rfl,fun _=>rfl⟩,⟨rfl,rfl,fun _=>rfl⟩,⟨rfl,rfl,fun _=>rfl⟩,⟨rfl,rfl,fun _=>rfl⟩,⟨rfl,rfl,fun _=>rfl⟩,⟨rfl,rfl,fun _=>rfl⟩,trivial⟩,⟨aF rfl,aF rfl,aF rfl,trivial⟩,rfl,rfl⟩
  clear r0
  rintro⟨j,r⟩ hI A3 L3 k3 hA3 hL3 hnext hexit hret
  have st:=fun hb:A3.cmp .lss j (S.size e)=true=>Ld hlM hmn hn32 hWM s0 s1 hI A3 hA3 (S.size e) (by subst hS;rfl) hb
  have en:=fun hb:A3.cmp .lss j (S.size e)=false=>Ol hI A3 hA3 (S.size e) (by subst hS;rfl) hb f2 f3
  rw[← hA3, ← hS, ← hV]
  cbv
  repeat' with_reducible first | (intro hb;cbv) | refine UM ?_ ?_
  all_goals first | replace st:=st hb | skip
  all_goals first | exact st.o1 | exact st.o2 | exact st.o3 | exact st.o4 | exact st.o5 | exact st.o6 | exact st.o7 | exact st.o8 | skip
  ·refine hnext _ (j+1,_) st.nx st.ms ?_
   replace st:=st.ad
   subst hS
   exact⟨⟨⟨rfl,rfl,leI st⟩,⟨rfl,rfl,fun _=>rfl⟩,⟨rfl,rfl,fun _=>rfl⟩,⟨rfl,rfl,fun _=>rfl⟩,⟨rfl,rfl,fun _=>rfl⟩,⟨rfl,rfl,fun _=>rfl⟩,trivial⟩,⟨aF rfl,aF rfl,leD rfl,trivial⟩,rfl,rfl⟩
  ·apply hexit
   have hr:=en hb
   clear hexit hnext hret st en
   cbv
   repeat' with_reducible first | (intro hb;cbv) | refine UM ?_ ?_
   refine hk _ _ (bE.two (t:=4) (u:=5) rfl (by simp) (by simp) (by simp) (fun ρ=>?_) rfl (leD ?_) rfl (leD ?_))
   ·exact Rh rfl rfl
   ·subst hV;exact Dg.ext' f1
   ·subst hV;exact Dg.ext' hr
def R5 (A:Alg) (S:SW) (V:SV):List (Nat×bU):=(208,aC [.pd, .pd] A (aeZ V)) :: ((R4 A S V))
theorem Id:COK Tryz.prog (aN (R5 aA aV aS)):=aB DD (Ax)
def xZ (V:SV):List CV→List Blk→Option LR
 | [.g [.W x], .g [.W y]],[]=>some ⟨[], .t [.g [.W (V.dmQ x y)], .g [.W (V.dmR x y)], .s (.bool (V.dmOK y))],[]⟩
 | _,_=>none
theorem I4 (x y:Wd) (A:Alg) (hA:A=aA) (V:SV) (hV:V=aS) (S:SW) (hS:S=aV) (hb:A.cmp .eql (S.size y.d) 1=true) :
  A.cmp .leq 1 (A.dig y.d 0)=true∧A.cmp .lss (A.dig y.d 0) 4294967296=true∧A.cmp .leq 0 (V.byR x.d (A.dig y.d 0))=true∧A.cmp .lss (V.byR x.d (A.dig y.d 0)) 4294967296=true∧
  V.byQ x.d (A.dig y.d 0)=V.divQ x.d y.d∧A.setD Dg.zero 0 (V.byR x.d (A.dig y.d 0))=V.divR x.d y.d:=by
 subst hA hV hS
 have hb:((bA y.d:Int) == 1)=true:=hb
 rw[beq_iff_eq] at hb
 obtain⟨h1,h2,h3⟩:=GS y.d (by omega)
 have hm:=Nat.mod_lt x.d.n (show 0 < y.d.n by omega)
 have e:aA.dig y.d 0=(y.d.n:Int):=by show((y.d.dig 0:Nat):Int)=_;rw[h3]
 have er:aS.byR x.d (y.d.n:Int)=((x.d.n % y.d.n:Nat):Int):=by show((x.d.n % (y.d.n:Int).toNat:Nat):Int)=_;rw[Int.toNat_natCast]
 rw[e,er]
 have k: ∀ z:Int,1≤z→aA.cmp .leq 1 z=true:=fun z h=>decide_eq_true h
 refine⟨k _ (by omega),(jY _ (by omega) (by omega)).2,(jY _ (by omega) (by omega)).1,(jY _ (by omega) (by omega)).2,?_,?_⟩
 ·exact Dg.ext' (by show x.d.n / (y.d.n:Int).toNat=_;rw[Int.toNat_natCast];rfl)
 ·apply Dg.ext'
  show(Dg.zero.set 0 ((x.d.n % y.d.n:Nat):Int).toNat).n=x.d.n % y.d.n
  rw[Int.toNat_natCast];exact HG _ (by omega)
theorem M6 (x y:Wd) (A:Alg) (hA:A=aA) (V:SV) (hV:V=aS) (S:SW) (hS:S=aV) (h0:A.cmp .eql (S.size y.d) 0=false) (h1:A.cmp .lss (S.dcmp x.d y.d) 0=false) (hb:A.cmp .eql (S.size y.d) 1=false) :
  V.two y.d=true∧V.leD y.d x.d=true:=by
 subst hA hV hS
 have h0:((bA y.d:Int) == 0)=false:=h0
 have hb:((bA y.d:Int) == 1)=false:=hb
 have h1:decide (sgn x.d.n y.d.n < 0)=false:=h1
 rw[H6,decide_eq_false_iff_not] at h1
 rw[beq_eq_false_iff_ne] at h0 hb
 refine⟨decide_eq_true ?_,decide_eq_true (by omega)⟩
 have:=dA y.d 1
 rw[show 32*1=32 from rfl] at this
 rcases Nat.lt_or_ge y.d.n (2 ^ 32) with h | h
 ·have:=this.2 h;omega
 ·exact h
theorem DE:aJ Tryz.prog 187 (aC [.v, .v] aA (xZ aS)):=by
 refine aH (un:=⟨false,some [2,3,4,5,6,7,8,9,10,26,32,37,11,12]⟩) tok Id aL (fn:=Tryz.f187) ?_
 intro w Wr args bs r hg ho hWr A L k hA hL hk
 obtain⟨S,hS⟩:=exE aV
 obtain⟨V,hV⟩:=exE aS
 try rw[← hS]
 try rw[← hV]
 try rw[← hA]
 unfold xZ at hg
 split at hg <;> cases hg
 rename_i x y
 have hw:=I4 x y A hA V hV S hS
 have hbg:=M6 x y A hA V hV S hS
 have hz:=sJ y.d
 have hq:=I1 x y
 have hq0:=Cz x y
 have hlt: ∀ b,A.cmp .lss (S.dcmp x.d y.d) 0=b→decide (x.d.n < y.d.n)=b:=fun b h=>by subst hA hS;have h:decide (sgn x.d.n y.d.n < 0)=b:=h;rw[H6] at h;exact h
 have hsm:=Cy x.d y.d
 have hz0:A.cmp .eql (S.size y.d) 0=true→y.d.n=0:=fun h=>hz.1 (by subst hA hS;exact h)
 have hz1:A.cmp .eql (S.size y.d) 0=false→y.d.n≠0:=fun h=>hz.2 (by subst hA hS;exact h)
 clear hz
 cbv
 repeat' with_reducible first | (intro hb;cbv) | refine UM ?_ ?_
 ·have:=hq0 (hz0 hb)
  refine hk _ _ (bE.pure rfl fun ρ=>?_)
  subst hV
  exact Az this.1.symm this.2.1.symm this.2.2.symm
 ·rename_i hb0
  have h1:=hq (hz1 hb0)
  have h2:=hsm (of_decide_eq_true (hlt _ hb))
  refine hk _ _ (bE.pure rfl fun ρ=>?_)
  subst hV hA hS
  rw[h2.1,h2.2] at h1
  exact Az h1.1.symm h1.2.1.symm h1.2.2.symm
 ·(intro hb)
  cbv
  repeat' with_reducible first | (intro hb;cbv) | refine UM ?_ ?_
  ·exact(hw hb).1
  ·exact(hw hb).2.1
  ·exact(hw hb).2.2.1
  ·exact(hw hb).2.2.2.1
  ·rename_i hb0 hb1
   have h1:=hq (hz1 hb0)
   have h2:=(hw hb).2.2.2.2
   refine hk _ _ (bE.pure rfl fun ρ=>?_)
   subst hV hA hS
   rw[← h2.1, ← h2.2] at h1
   exact Az h1.1.symm h1.2.1.symm h1.2.2.symm
 ·rename_i hb0 hb1
  exact(hbg hb0 hb1 hb).1
 ·rename_i hb0 hb1
  exact(hbg hb0 hb1 hb).2
 ·rename_i hb0 hb1
  have h1:=hq (hz1 hb0)
  refine hk _ _ (bE.pure rfl fun ρ=>?_)
  subst hV hA hS
  exact Az h1.1.symm h1.2.1.symm h1.2.2.symm
def R6 (A:Alg) (S:SW) (V:SV):List (Nat×bU):=(187,aC [.v, .v] A (xZ V)) :: ((R5 A S V))
theorem wN:COK Tryz.prog (aN (R6 aA aV aS)):=aB DE (Id)
def Js (V:SV):List CV→List Blk→Option LR
 | [.g [.W x], .g [.W y]],[]=>some ⟨[], .c (.g [.W (V.gcd x y)]),[]⟩
 | _,_=>none
theorem zQ (p:Wd) (A:Alg) (hA:A=aA) (S:SW) (hS:S=aV):(A.cmp .gtr (S.size p.d) 2=true→p.d.n≠0)∧(A.cmp .gtr (S.size p.d) 2=false→p.d.n < 2 ^ 64)∧(A.cmp .gtr (S.size p.d) 0=true→p.d.n≠0)∧(A.cmp .gtr (S.size p.d) 0=false→p.d.n=0)∧
  (A.cmp .eql (S.size p.d) 0=true→p.d.n=0)∧(A.cmp .eql (S.size p.d) 0=false→p.d.n≠0):=by
 subst hA hS
 have z:=dA p.d 0
 rw[show 32*0=0 from rfl,Nat.pow_zero] at z
 obtain⟨z1,z2⟩:=sJ p.d
 have zz:bA p.d=0↔p.d.n=0:=⟨fun h=>by have:=z.1 (by omega);omega,fun h=>by have:=z.2 (by omega);omega⟩
 refine⟨fun h=>?_,fun h=>?_,fun h=>?_,fun h=>?_,z1,z2⟩
 ·have h:(bA p.d:Int) > 2:=of_decide_eq_true h
  intro h0;have:=zz.2 h0;omega
 ·have h: ¬ (bA p.d:Int) > 2:=of_decide_eq_false h
  exact AV _ h
 ·have h:(bA p.d:Int) > 0:=of_decide_eq_true h
  intro h0;have:=zz.2 h0;omega
 ·have h: ¬ (bA p.d:Int) > 0:=of_decide_eq_false h
  exact zz.1 (by omega)
def GsI (g:Nat) (a b:Int):Prop:=0≤a∧a < 18446744073709551616∧0≤b∧b < 18446744073709551616∧Nat.gcd a.toNat b.toNat=g
theorem GsI.init (p q:Wd) (g:Nat) (A:Alg) (hA:A=aA) (hp:p.d.n < 2 ^ 64) (hq:q.d.n < 2 ^ 64) (hg:Nat.gcd p.d.n q.d.n=g) :
  GsI g (A.bin .or .u64 (A.bin .shl .u64 (A.wrap .u64 (A.dig p.d 1)) 32) (A.wrap .u64 (A.dig p.d 0))) (A.bin .or .u64 (A.bin .shl .u64 (A.wrap .u64 (A.dig q.d 1)) 32) (A.wrap .u64 (A.dig q.d 0))):=by
 subst hA
 have e1:=Ie p.d hp
 have e2:=Ie q.d hq
 show GsI g (aD .or .u64 (aD .shl .u64 (IntKind.u64.wrap ((p.d.dig 1:Nat):Int)) 32) (IntKind.u64.wrap ((p.d.dig 0:Nat):Int))) (aD .or .u64 (aD .shl .u64 (IntKind.u64.wrap ((q.d.dig 1:Nat):Int)) 32) (IntKind.u64.wrap ((q.d.dig 0:Nat):Int)))
 rw[e1,e2]
 exact⟨by omega,by omega,by omega,by omega,by rw[Int.toNat_natCast,Int.toNat_natCast];exact hg⟩
theorem GsI.step {g:Nat} {a b:Int} (h:GsI g a b) (A:Alg) (hA:A=aA) (hb:A.cmp .neq b 0=true):GsI g b (A.bin .rem .u64 a b)∧(A.bin .rem .u64 a b).toNat < b.toNat:=by
 subst hA
 obtain⟨p1,p2,p3,p4,p5⟩:=h
 have hb:(b != 0)=true:=hb
 rw[bne_iff_ne] at hb
 have hx:aA.bin .rem .u64 a b=a % b:=by
  show a.tmod b=_
  rw[Int.tmod_eq_emod_of_nonneg p1]
 have h1:=Int.emod_nonneg a hb
 have h2:=Int.emod_lt_of_pos a (show 0 < b by omega)
 rw[hx]
 refine⟨⟨p3,p4,h1,by omega,?_⟩,by omega⟩
 rw[← p5,Int.toNat_emod p1 p3,Nat.gcd_comm, ← Nat.gcd_rec,Nat.gcd_comm]
structure Pu (A:Alg) (S:SW) (g:Nat) (a:Int):Prop where
 o1:A.cmp .leq 0 (A.wrap .u32 (A.bin .and .u64 a 4294967295))=true
 o2:A.cmp .lss (A.wrap .u32 (A.bin .and .u64 a 4294967295)) 4294967296=true
 o3:A.cmp .leq 0 (A.wrap .u32 (A.bin .shr .u64 a 32))=true
 o4:A.cmp .lss (A.wrap .u32 (A.bin .shr .u64 a 32)) 4294967296=true
 res:S.told false (A.setD (A.setD Dg.zero 0 (A.wrap .u32 (A.bin .and .u64 a 4294967295))) 1 (A.wrap .u32 (A.bin .shr .u64 a 32)))=⟨false,bX g⟩
theorem GsI.fin {g:Nat} {a b:Int} (h:GsI g a b) (A:Alg) (hA:A=aA) (S:SW) (hS:S=aV) (hb:A.cmp .neq b 0=false):Pu A S g a:=by
 subst hA hS
 obtain⟨p1,p2,p3,p4,p5⟩:=h
 have hb:(b != 0)=false:=hb
 rw[bne_eq_false_iff_eq] at hb
 subst hb
 rw[show(0:Int).toNat=0 from rfl,Nat.gcd_zero_right] at p5
 have hw:0≤IntKind.u32.wrap (aD .and .u64 a 4294967295)∧IntKind.u32.wrap (aD .and .u64 a 4294967295) < 4294967296∧0≤IntKind.u32.wrap (aD .shr .u64 a 32)∧IntKind.u32.wrap (aD .shr .u64 a 32) < 4294967296:=by rw[IntKind.wrap_u32,IntKind.wrap_u32];omega
 refine⟨(jY _ hw.1 hw.2.1).1,(jY _ hw.1 hw.2.1).2,(jY _ hw.2.2.1 hw.2.2.2).1,(jY _ hw.2.2.1 hw.2.2.2).2,?_⟩
 show tld false (aA.setD (aA.setD Dg.zero 0 (IntKind.u32.wrap (aD .and .u64 a 4294967295))) 1 (IntKind.u32.wrap (aD .shr .u64 a 32)))=_
 rw[atN a p1 p2,p5];rfl
theorem K0:aJ Tryz.prog 185 (aC [.v, .v] aA (Js aS)):=by
 refine aH (un:=⟨false,some [2,3,4,27,40,63,8,9,5,6]⟩) tok wN aL (fn:=Tryz.f185) ?_
 intro w Wr args bs r hg ho hWr A L k hA hL hk
 obtain⟨S,hS⟩:=exE aV
 obtain⟨V,hV⟩:=exE aS
 try rw[← hS]
 try rw[← hV]
 try rw[← hA]
 unfold Js at hg
 split at hg <;> cases hg
 rename_i x y
 have hx:(⟨false,x.d⟩:Wd).d=x.d:=rfl
 have gp:=Dc x y
 have i0:GcI x y ⟨false,x.d⟩ ⟨false,y.d⟩:=⟨rfl,rfl,rfl⟩
 cbv
 refine hL _ _ _ (aQ (un:=⟨false,some [2,3,4,27,40,63,8,9,5,6]⟩) tok wN aL (fun p:Wd×Wd=>⟨[(2,⟨[], .c (.s (.hp 0 0))⟩),(3,⟨[], .c (.s (.hp 1 0))⟩),(4,⟨[], .c (.s (.hp 2 0))⟩)],[(0, .fix true [.W p.1]),(1, .fix true [.W p.2]),(2, .fix true [.W ⟨false,Dg.zero⟩])],3⟩)
  (fun p=>GcI x y p.1 p.2) (fun p=>p.2.d.n) (⟨false,x.d⟩,⟨false,y.d⟩) i0 ?_ (fun _ i hi=>by have:=hWr i hi;simp at this ⊢) ?_)
 ·exact⟨⟨⟨rfl,rfl,fun _=>rfl⟩,⟨rfl,rfl,fun _=>rfl⟩,⟨rfl,rfl,fun _=>rfl⟩,trivial⟩,⟨aF rfl,aF rfl,aF rfl,trivial⟩,rfl,rfl⟩
 clear i0 hx
 rintro⟨p,q⟩ hI A2 L2 k2 hA2 hL2 hnext hexit hret
 have tq:=zQ q A2 hA2 S hS
 have tp:=zQ p A2 hA2 S hS
 have st:=fun h=>GcI.step hI (q:=q) h
 rw[← hA2, ← hS, ← hV]
 cbv
 repeat' with_reducible first | (intro hb;cbv) | refine UM ?_ ?_
 ·have h0:=st (tq.1 hb)
  refine hnext _ (_,V.dmR p q) (by subst hV;exact h0.1) (by subst hV;exact h0.2) ?_
  exact⟨⟨⟨rfl,rfl,fun _=>rfl⟩,⟨rfl,rfl,fun _=>rfl⟩,⟨rfl,rfl,fun _=>rfl⟩,trivial⟩,⟨aF rfl,aF rfl,aF rfl,trivial⟩,rfl,rfl⟩
 ·have h0:=st (tq.2.2.1 hb)
  refine hnext _ (_,V.dmR p q) (by subst hV;exact h0.1) (by subst hV;exact h0.2) ?_
  exact⟨⟨⟨rfl,rfl,fun _=>rfl⟩,⟨rfl,rfl,fun _=>rfl⟩,⟨rfl,rfl,fun _=>rfl⟩,trivial⟩,⟨aF rfl,aF rfl,aF rfl,trivial⟩,rfl,rfl⟩
 ·rename_i hb0 hb1
  apply hexit
  have hq64:=tq.2.1 hb0
  have hor:q.d.n=0∨p.d.n < 2 ^ 64:= .inl (tq.2.2.2.1 hb)
  have eA:A2=A:=hA2.trans hA.symm
  rw[eA] at tq
  clear hexit hnext hret
  obtain⟨hp0,hq0,hg⟩:=hI
  have hp':p.d.n=Nat.gcd x.d.n y.d.n→p=aS.gcd x y:=fun h=>by rw[gp];obtain⟨b,d⟩:=p;simp only at hp0 h;subst hp0;congr 1;exact Dg.ext' h
  have hmk:(⟨false,bX (Nat.gcd x.d.n y.d.n)⟩:Wd)=aS.gcd x y:=by rw[gp];congr 1;exact Dg.ext' (Nat.mod_eq_of_lt (lR x.d.lt y.d.lt))
  clear gp
  cbv
  with_reducible refine And.intro ?_ ?_
  ·intro hb
   cbv
   have h0:=tq.2.2.2.2.1 hb
   refine hk _ _ (bE.pure rfl fun ρ=>?_)
   subst hV
   exact H5 (hp' (by rw[← hg,h0,Nat.gcd_zero_right]))
  ·intro hb
   have h0:=tq.2.2.2.2.2 hb
   have hp64:p.d.n < 2 ^ 64:=hor.resolve_left h0
   have g0:=GsI.init p q _ A hA hp64 hq64 hg
   cbv
   refine hL _ _ _ (aQ (un:=⟨false,some [8,9,4,63]⟩) tok wN aL (fun p:Int×Int=>⟨[(8,⟨[], .c (.s (.int .u64 p.1))⟩),(9,⟨[], .c (.s (.int .u64 p.2))⟩),(4,⟨[], .c (.s (.hp 2 0))⟩)],[(2, .fix true [.W ⟨false,Dg.zero⟩])],3⟩)
    (fun p=>GsI (Nat.gcd x.d.n y.d.n) p.1 p.2) (fun p=>p.2.toNat) (_,_) g0 ?_ (fun _ i hi=>by have:=hWr i hi;simp at this ⊢) ?_)
   ·exact⟨⟨⟨rfl,rfl,fun _=>rfl⟩,⟨rfl,rfl,fun _=>rfl⟩,⟨rfl,rfl,fun _=>rfl⟩,trivial⟩,⟨aF rfl,trivial⟩,rfl,rfl⟩
   clear g0
   rintro⟨a,b⟩ hI A3 L3 k3 hA3 hL3 hnext hexit hret
   have st:=GsI.step hI A3 hA3
   have en:=GsI.fin hI A3 hA3 S hS
   rw[← hA3, ← hS, ← hV]
   cbv
   repeat' with_reducible first | (intro hb;cbv) | refine UM ?_ ?_
   ·exact hb
   ·exact hnext _ (_,_) (st hb).1 (st hb).2 ⟨⟨⟨rfl,rfl,fun _=>rfl⟩,⟨rfl,rfl,fun _=>rfl⟩,⟨rfl,rfl,fun _=>rfl⟩,trivial⟩,⟨aF rfl,trivial⟩,rfl,rfl⟩
   ·apply hexit
    have en:=en hb
    have eA3:A3=A:=hA3.trans hA.symm
    rw[eA3] at en
    clear hexit hnext hret st
    cbv
    repeat' with_reducible first | (intro hb;cbv) | refine UM ?_ ?_
    all_goals first | exact en.o1 | exact en.o2 | exact en.o3 | exact en.o4 | skip
    refine hk _ _ (bE.pure rfl fun ρ=>?_)
    subst hV
    exact H5 (en.res.trans hmk)
 ·rename_i hb0
  apply hexit
  have hq64:=tq.2.1 hb0
  have hor:q.d.n=0∨p.d.n < 2 ^ 64:= .inr (tp.2.1 hb)
  have eA:A2=A:=hA2.trans hA.symm
  rw[eA] at tq
  clear hexit hnext hret
  obtain⟨hp0,hq0,hg⟩:=hI
  have hp':p.d.n=Nat.gcd x.d.n y.d.n→p=aS.gcd x y:=fun h=>by rw[gp];obtain⟨b,d⟩:=p;simp only at hp0 h;subst hp0;congr 1;exact Dg.ext' h
  have hmk:(⟨false,bX (Nat.gcd x.d.n y.d.n)⟩:Wd)=aS.gcd x y:=by rw[gp];congr 1;exact Dg.ext' (Nat.mod_eq_of_lt (lR x.d.lt y.d.lt))
  clear gp
  cbv
  with_reducible refine And.intro ?_ ?_
  ·intro hb
   cbv
   have h0:=tq.2.2.2.2.1 hb
   refine hk _ _ (bE.pure rfl fun ρ=>?_)
   subst hV
   exact H5 (hp' (by rw[← hg,h0,Nat.gcd_zero_right]))
  ·intro hb
   have h0:=tq.2.2.2.2.2 hb
   have hp64:p.d.n < 2 ^ 64:=hor.resolve_left h0
   have g0:=GsI.init p q _ A hA hp64 hq64 hg
   cbv
   refine hL _ _ _ (aQ (un:=⟨false,some [8,9,4,63]⟩) tok wN aL (fun p:Int×Int=>⟨[(8,⟨[], .c (.s (.int .u64 p.1))⟩),(9,⟨[], .c (.s (.int .u64 p.2))⟩),(4,⟨[], .c (.s (.hp 2 0))⟩)],[(2, .fix true [.W ⟨false,Dg.zero⟩])],3⟩)
    (fun p=>GsI (Nat.gcd x.d.n y.d.n) p.1 p.2) (fun p=>p.2.toNat) (_,_) g0 ?_ (fun _ i hi=>by have:=hWr i hi;simp at this ⊢) ?_)
   ·exact⟨⟨⟨rfl,rfl,fun _=>rfl⟩,⟨rfl,rfl,fun _=>rfl⟩,⟨rfl,rfl,fun _=>rfl⟩,trivial⟩,⟨aF rfl,trivial⟩,rfl,rfl⟩
   clear g0
   rintro⟨a,b⟩ hI A3 L3 k3 hA3 hL3 hnext hexit hret
   have st:=GsI.step hI A3 hA3
   have en:=GsI.fin hI A3 hA3 S hS
   rw[← hA3, ← hS, ← hV]
   cbv
   repeat' with_reducible first | (intro hb;cbv) | refine UM ?_ ?_
   ·exact hb
   ·exact hnext _ (_,_) (st hb).1 (st hb).2 ⟨⟨⟨rfl,rfl,fun _=>rfl⟩,⟨rfl,rfl,fun _=>rfl⟩,⟨rfl,rfl,fun _=>rfl⟩,trivial⟩,⟨aF rfl,trivial⟩,rfl,rfl⟩
   ·apply hexit
    have en:=en hb
    have eA3:A3=A:=hA3.trans hA.symm
    rw[eA3] at en
    clear hexit hnext hret st
    cbv
    repeat' with_reducible first | (intro hb;cbv) | refine UM ?_ ?_
    all_goals first | exact en.o1 | exact en.o2 | exact en.o3 | exact en.o4 | skip
    refine hk _ _ (bE.pure rfl fun ρ=>?_)
    subst hV
    exact H5 (en.res.trans hmk)
def R7 (A:Alg) (S:SW) (V:SV):List (Nat×bU):=(185,aC [.v, .v] A (Js V)) :: ((R6 A S V))
theorem OP:COK Tryz.prog (aN (R7 aA aV aS)):=aB K0 (wN)
def R8 (A:Alg) (S:SW) (V:SV):List (Nat×bU):=((R7 A S V))
theorem wO:COK Tryz.prog (aN (R8 aA aV aS)):=OP
theorem bJ (A:Alg) (hA:A=aA) (z w:Int) (h:z≤w):A.cmp .leq z w=true:=by subst hA;exact decide_eq_true h
theorem bH (A:Alg) (hA:A=aA) (z w:Int) (h:z < w):A.cmp .lss z w=true:=by subst hA;exact decide_eq_true h
theorem IX (lo hi:Dg) (k:Int) (k0:0≤k) (k1:k < 64):aA.dig2 lo hi k=((N2 lo hi / 2 ^ (32*k.toNat) % 2 ^ 32:Nat):Int):=by
 rw[← HI lo hi k.toNat (by omega)]
 show(if k < 32 then((lo.dig k.toNat:Nat):Int) else((hi.dig (k.toNat - 32):Nat):Int))=_
 by_cases h:k < 32
 ·rw[if_pos h,if_pos (by omega)]
 ·rw[if_neg h,if_neg (by omega)]
theorem Eh (lo hi:Dg) (k v:Int) (k0:0≤k) (k1:k < 64) (v1:v < 4294967296) :
  N2 (aA.setLo lo k v) (aA.setHi hi k v)+2 ^ (32*k.toNat)*(N2 lo hi / 2 ^ (32*k.toNat) % 2 ^ 32)=N2 lo hi+2 ^ (32*k.toNat)*v.toNat:=by
 have:=MO lo hi k.toNat v.toNat (by omega) (by omega)
 show N2 (if k < 32 then lo.set k.toNat v.toNat else lo) (if k < 32 then hi else hi.set (k.toNat - 32) v.toNat)+_=_
 by_cases h:k < 32
 ·rw[if_pos h,if_pos h];rw[if_pos (by omega),if_pos (by omega)] at this;exact this
 ·rw[if_neg h,if_neg h];rw[if_neg (by omega),if_neg (by omega)] at this;exact this
def MoI (d e:Dg) (i:Int) (lo hi:Dg):Prop:=0≤i∧i≤bA d∧N2 lo hi=d.n % 2 ^ (32*i.toNat)*e.n
def MiI (d e:Dg) (i j c:Int) (lo hi:Dg):Prop:=0≤i∧i < bA d∧0≤j∧j≤bA e∧0≤c∧InI d e i.toNat j.toNat (N2 lo hi) c.toNat
structure MJ (A:Alg) (d e:Dg) (i j c:Int) (lo hi:Dg) (k w v:Int):Prop where
 o1:A.cmp .leq 0 i=true
 o2:A.cmp .lss i 32=true
 o3:A.cmp .leq 0 j=true
 o4:A.cmp .lss j 32=true
 o5:A.cmp .leq 0 k=true
 o6:A.cmp .lss k 64=true
 o7:A.cmp .leq 0 v=true
 o8:A.cmp .lss v 4294967296=true
 nx:MiI d e i (j+1) (A.bin .shr .u64 w 32) (A.setLo lo k v) (A.setHi hi k v)
 ad:A.bin .add .i64 j 1=j+1
 ms:((bA e:Int) - (j+1)).toNat < ((bA e:Int) - j).toNat
theorem J6 {d e:Dg} {i j c:Int} {lo hi:Dg} (hI:MiI d e i j c lo hi) (A:Alg) (hA:A=aA) (me:Int) (hme:me=bA e) (hb:A.cmp .lss j me=true) (k w v:Int) (hk:k=A.bin .add .i64 i j)
  (hw:w=A.bin .add .u64 (A.bin .add .u64 (A.bin .mul .u64 (A.wrap .u64 (A.dig d i)) (A.wrap .u64 (A.dig e j))) (A.wrap .u64 (A.dig2 lo hi k))) c) (hv:v=A.wrap .u32 (A.bin .and .u64 w 4294967295)):MJ A d e i j c lo hi k w v:=by
 subst hA hme
 have hb:j < (bA e:Int):=of_decide_eq_true hb
 obtain⟨i0,i1,j0,j1,c0,hI⟩:=hI
 have hd32:=(dA d 32).2 d.lt
 have he32:=(dA e 32).2 e.lt
 have hk':k=i+j:=by rw[hk];show aD .add .i64 i j=_;simp only[aD,IntKind.wrap_i64];omega
 have hkt:k.toNat=i.toNat+j.toNat:=by omega
 have hx:=fQ d i.toNat
 have hy:=fQ e j.toNat
 have hc:=hI.2.2
 obtain⟨s,hs⟩: ∃ s,s=N2 lo hi / 2 ^ (32*(i.toNat+j.toNat)) % 2 ^ 32:=⟨_,rfl⟩
 have hs32:s < 2 ^ 32:=by rw[hs];exact Nat.mod_lt _ (by decide)
 have e2:aA.dig2 lo hi k=(s:Int):=by rw[IX lo hi k (by omega) (by omega),hkt,hs]
 obtain⟨p,hp⟩: ∃ p,p=d.dig i.toNat*e.dig j.toNat:=⟨_,rfl⟩
 have hp1:p≤4294967295*4294967295:=by rw[hp];exact Nat.mul_le_mul (by omega) (by omega)
 have ep:aA.bin .mul .u64 (aA.wrap .u64 (aA.dig d i)) (aA.wrap .u64 (aA.dig e j))=(p:Int):=by
  show IntKind.u64.wrap (IntKind.u64.wrap ((d.dig i.toNat:Nat):Int)*IntKind.u64.wrap ((e.dig j.toNat:Nat):Int))=_
  rw[eR ((d.dig i.toNat:Nat):Int) (by omega) (by omega),eR ((e.dig j.toNat:Nat):Int) (by omega) (by omega), ← Int.natCast_mul, ← hp,eR _ (by omega) (by omega)]
 have ew:w=((p+s+c.toNat:Nat):Int):=by
  rw[hw,ep,e2]
  show IntKind.u64.wrap (IntKind.u64.wrap ((p:Int)+IntKind.u64.wrap (s:Int))+c)=_
  rw[eR (s:Int) (by omega) (by omega),eR ((p:Int)+(s:Int)) (by omega) (by omega),eR ((p:Int)+(s:Int)+c) (by omega) (by omega)]
  omega
 have ev:v=(((p+s+c.toNat) % 2 ^ 32:Nat):Int):=by
  rw[hv]
  show IntKind.u32.wrap (aD .and .u64 w 4294967295)=_
  rw[pL w (by omega) (by omega),ew];omega
 clear hw hv hk
 have hset:=Eh lo hi k v (by omega) (by omega) (by omega)
 rw[hkt, ← hs,show v.toNat=(p+s+c.toNat) % 2 ^ 32 by omega] at hset
 obtain⟨n1,n2⟩:=hI.step (by omega) (w:=p+s+c.toNat) (by rw[hp,hs]) (N':=N2 (aA.setLo lo k v) (aA.setHi hi k v)) (by rw[← hs];exact hset)
 have esh:aA.bin .shr .u64 w 32=(((p+s+c.toNat) / 2 ^ 32:Nat):Int):=by
  show aD .shr .u64 w 32=_
  rw[gK w (by omega),ew];omega
 exact {
  o1:=bJ _ rfl _ _ i0
  o2:=bH _ rfl _ _ (by omega)
  o3:=bJ _ rfl _ _ j0
  o4:=bH _ rfl _ _ (by omega)
  o5:=bJ _ rfl _ _ (by omega)
  o6:=bH _ rfl _ _ (by omega)
  o7:=bJ _ rfl _ _ (by omega)
  o8:=bH _ rfl _ _ (by omega)
  nx:=by
   refine⟨i0,i1,by omega,by omega,by rw[esh];exact Int.natCast_nonneg _,?_⟩
   rw[esh,Int.toNat_natCast,show(j+1).toNat=j.toNat+1 by omega]
   exact n1
  ad:=by show aD .add .i64 j 1=j+1;simp only[aD,IntKind.wrap_i64];omega
  ms:=by omega }
theorem FZ {d e:Dg} {i:Int} {lo hi:Dg} (hI:MoI d e i lo hi) (A:Alg) (hA:A=aA) (ne:Int) (hne:ne=bA d) (hb:A.cmp .lss i ne=true):MiI d e i 0 0 lo hi:=by
 subst hA hne
 have hb:i < (bA d:Int):=of_decide_eq_true hb
 exact⟨hI.1,hb,Int.le_refl 0,Int.natCast_nonneg _,Int.le_refl 0,InI.first hI.2.2⟩
structure Px (A:Alg) (d e:Dg) (i c:Int) (lo hi:Dg) (k v:Int):Prop where
 o1:A.cmp .leq 0 k=true
 o2:A.cmp .lss k 64=true
 o3:A.cmp .leq 0 v=true
 o4:A.cmp .lss v 4294967296=true
 nx:MoI d e (i+1) (A.setLo lo k v) (A.setHi hi k v)
 ad:A.bin .add .i64 i 1=i+1
 ms:((bA d:Int) - (i+1)).toNat < ((bA d:Int) - i).toNat
theorem Nr {d e:Dg} {i j c:Int} {lo hi:Dg} (hI:MiI d e i j c lo hi) (A:Alg) (hA:A=aA) (me:Int) (hme:me=bA e) (hb:A.cmp .lss j me=false) (k v:Int) (hk:k=A.bin .add .i64 i me) (hv:v=A.wrap .u32 c):Px A d e i c lo hi k v:=by
 subst hA hme
 have hb: ¬ j < (bA e:Int):=of_decide_eq_false hb
 obtain⟨i0,i1,j0,j1,c0,hI⟩:=hI
 have hj:j.toNat=bA e:=by omega
 rw[hj] at hI
 have hc:=hI.2.2
 have hd32:=(dA d 32).2 d.lt
 have he32:=(dA e 32).2 e.lt
 have hk':k=i+bA e:=by rw[hk];show aD .add .i64 i (bA e:Int)=_;simp only[aD,IntKind.wrap_i64];omega
 have hv':v=c:=by rw[hv];show IntKind.u32.wrap c=c;rw[IntKind.wrap_u32];omega
 have hkt:k.toNat=i.toNat+bA e:=by omega
 have hset:=Eh lo hi k v (by omega) (by omega) (by omega)
 rw[hkt,show v.toNat=c.toNat by omega] at hset
 have:=hI.last hset
 exact {
  o1:=bJ _ rfl _ _ (by omega)
  o2:=bH _ rfl _ _ (by omega)
  o3:=bJ _ rfl _ _ (by omega)
  o4:=bH _ rfl _ _ (by omega)
  nx:=⟨by omega,by omega,by rw[show(i+1).toNat=i.toNat+1 by omega];exact this⟩
  ad:=by show aD .add .i64 i 1=i+1;simp only[aD,IntKind.wrap_i64];omega
  ms:=by omega }
theorem Nw {d e:Dg} {i:Int} {lo hi:Dg} (hI:MoI d e i lo hi) (A:Alg) (hA:A=aA) (ne:Int) (hne:ne=bA d) (hb:A.cmp .lss i ne=false):N2 lo hi=d.n*e.n:=by
 subst hA hne
 have hb: ¬ i < (bA d:Int):=of_decide_eq_false hb
 obtain⟨i0,i1,h⟩:=hI
 rw[h,show i.toNat=bA d by omega,Nat.mod_eq_of_lt ((dA d (bA d)).1 (Nat.le_refl _))]
def OvI (hi:Dg) (k:Int):Prop:=0≤k∧k≤32∧hi.n % 2 ^ (32*k.toNat)=0
structure MP (A:Alg) (lo hi:Dg) (k:Int):Prop where
 o1:A.cmp .leq 0 k=true
 o2:A.cmp .lss (A.iadd 32 k) 64=true
 o3:A.cmp .leq 0 (A.iadd 32 k)=true
 o4:A.cmp .lss k 32=true
 nz:A.cmp .neq (A.dig2 lo hi (A.iadd 32 k)) 0=true→hi.n≠0
 nx:A.cmp .neq (A.dig2 lo hi (A.iadd 32 k)) 0=false→OvI hi (k+1)
 ad:A.bin .add .i64 k 1=k+1
 ms:(32 - (k+1)).toNat < (32 - k).toNat
theorem K4 {lo hi:Dg} {k:Int} (hI:OvI hi k) (A:Alg) (hA:A=aA) (hb:A.cmp .lss k (A.isub 64 32)=true):MP A lo hi k:=by
 subst hA
 have hb:k < 64 - 32:=of_decide_eq_true hb
 obtain⟨k0,k1,h⟩:=hI
 have e:aA.dig2 lo hi (aA.iadd 32 k)=((hi.dig k.toNat:Nat):Int):=by
  show(if 32+k < 32 then((lo.dig (32+k).toNat:Nat):Int) else((hi.dig ((32+k).toNat - 32):Nat):Int))=_
  rw[if_neg (by omega),show(32+k).toNat - 32=k.toNat by omega]
 exact {
  o1:=bJ _ rfl _ _ k0
  o2:=bH _ rfl _ _ (show 32+k < 64 by omega)
  o3:=bJ _ rfl _ _ (show 0≤32+k by omega)
  o4:=bH _ rfl _ _ (by omega)
  nz:=fun h=>by
   rw[e] at h
   intro h0
   have hz:hi.dig k.toNat=0:=by unfold Dg.dig;rw[h0];simp
   rw[hz] at h
   exact absurd h (by decide)
  nx:=fun h'=>by
   rw[e] at h'
   have hz:(((hi.dig k.toNat:Nat):Int) != 0)=false:=h'
   rw[bne_eq_false_iff_eq] at hz
   refine⟨by omega,by omega,?_⟩
   rw[show(k+1).toNat=k.toNat+1 by omega,iP,h,show hi.dig k.toNat=0 by omega,Nat.mul_zero]
  ad:=by show aD .add .i64 k 1=k+1;simp only[aD,IntKind.wrap_i64];omega
  ms:=by omega }
theorem Od {hi:Dg} {k:Int} (hI:OvI hi k) (A:Alg) (hA:A=aA) (hb:A.cmp .lss k (A.isub 64 32)=false):hi.n=0:=by
 subst hA
 have hb: ¬ k < 64 - 32:=of_decide_eq_false hb
 obtain⟨k0,k1,h⟩:=hI
 have:=lZ hi
 rw[show k.toNat=32 by omega,this] at h
 exact h
def JG (V:SV):List CV→List Blk→Option LR
 | [.g [.W x], .g [.W y]],[]=>some ⟨[], .t [.g [.W (V.mul x y)], .s (.bool (V.mulOK x y))],[]⟩
 | _,_=>none
theorem K3:aJ Tryz.prog 194 (aC [.v, .v] aA (JG aS)):=by
 refine aH (un:=⟨false,some [2,3,4,5,6,7,8,9,10,25,26,72,73,74]⟩) tok wO aL (fn:=Tryz.f194) ?_
 intro w Wr args bs r hg ho hWr A L k hA hL hk
 obtain⟨S,hS⟩:=exE aV
 obtain⟨V,hV⟩:=exE aS
 try rw[← hS]
 try rw[← hV]
 try rw[← hA]
 unfold JG at hg
 split at hg <;> cases hg
 rename_i x y
 have i0:MoI x.d y.d 0 Dg.zero Dg.zero:=⟨Int.le_refl 0,Int.natCast_nonneg _,by simp[N2,Dg.zero,Nat.mod_one]⟩
 cbv
 refine hL _ _ _ (aQ (un:=⟨false,some [2,3,4,6,7,8,9,10,25,26,11,12,27,29,30]⟩) tok wO aL (fun p:Int×Dg×Dg=>⟨[(26,⟨[], .c (.s (.int .i64 p.1))⟩),(25,⟨[], .c (.s (.int .i64 (aV.size x.d)))⟩),(9,⟨[], .c (.s (.int .i64 (aV.size y.d)))⟩),(2,⟨[], .c (.s (.hp 0 0))⟩),(3,⟨[], .c (.s (.hp 1 0))⟩),(4,⟨[], .c (.s (.hp 2 0))⟩),(6,⟨[], .c (.s (.hp 3 0))⟩),(7,⟨[], .c (.s (.hp 4 0))⟩),(10,⟨[], .c (.s (.hp 5 0))⟩)],[(0, .fix true [.W x]),(1, .fix true [.W y]),(2, .fix true [.W ⟨false,Dg.zero⟩]),(3, .fix true [.D x.d]),(4, .fix true [.D y.d]),(5, .fix true [.D p.2.1, .D p.2.2])],6⟩)
  (fun p=>MoI x.d y.d p.1 p.2.1 p.2.2) (fun p=>((bA x.d:Int) - p.1).toNat) (0,Dg.zero,Dg.zero) i0 ?_ (fun _ i hi=>by have:=hWr i hi;simp at this ⊢) ?_)
 ·subst hS
  exact⟨⟨⟨rfl,rfl,fun _=>rfl⟩,⟨rfl,rfl,fun _=>rfl⟩,⟨rfl,rfl,fun _=>rfl⟩,⟨rfl,rfl,fun _=>rfl⟩,⟨rfl,rfl,fun _=>rfl⟩,⟨rfl,rfl,fun _=>rfl⟩,⟨rfl,rfl,fun _=>rfl⟩,⟨rfl,rfl,fun _=>rfl⟩,⟨rfl,rfl,fun _=>rfl⟩,trivial⟩,⟨aF rfl,aF rfl,aF rfl,aF rfl,aF rfl,aF rfl,trivial⟩,rfl,rfl⟩
 clear i0
 rintro⟨i,lo,hi⟩ hI A2 L2 k2 hA2 hL2 hnext hexit hret
 have m0:=fun hb:A2.cmp .lss i (S.size x.d)=true=>FZ hI A2 hA2 (S.size x.d) (by subst hS;rfl) hb
 have me:A2.cmp .lss i (S.size x.d)=false→N2 lo hi=x.d.n*y.d.n:=fun hb=>Nw hI A2 hA2 (S.size x.d) (by subst hS;rfl) hb
 clear hI
 rw[← hA2, ← hS, ← hV]
 cbv
 with_reducible refine And.intro ?_ ?_
 ·intro hb
  have m0:=m0 hb
  clear me hexit hret
  cbv
  refine hL2 _ _ _ (aQ (un:=⟨false,some [2,3,4,6,7,9,10,25,26,11,12,27,29,30,31,13,14]⟩) tok wO aL (fun p:Int×Int×Dg×Dg=>⟨[(30,⟨[], .c (.s (.int .i64 p.1))⟩),(12,⟨[], .c (.s (.int .u64 p.2.1))⟩),(29,⟨[], .c (.s (.int .i64 (aV.size y.d)))⟩),(11,⟨[], .c (.s (.int .i64 i))⟩),(26,⟨[], .c (.s (.int .i64 i))⟩),(25,⟨[], .c (.s (.int .i64 (aV.size x.d)))⟩),(9,⟨[], .c (.s (.int .i64 (aV.size y.d)))⟩),(2,⟨[], .c (.s (.hp 0 0))⟩),(3,⟨[], .c (.s (.hp 1 0))⟩),(4,⟨[], .c (.s (.hp 2 0))⟩),(6,⟨[], .c (.s (.hp 3 0))⟩),(7,⟨[], .c (.s (.hp 4 0))⟩),(10,⟨[], .c (.s (.hp 5 0))⟩)],[(0, .fix true [.W x]),(1, .fix true [.W y]),(2, .fix true [.W ⟨false,Dg.zero⟩]),(3, .fix true [.D x.d]),(4, .fix true [.D y.d]),(5, .fix true [.D p.2.2.1, .D p.2.2.2])],6⟩)
   (fun p=>MiI x.d y.d i p.1 p.2.1 p.2.2.1 p.2.2.2) (fun p=>((bA y.d:Int) - p.1).toNat) (0,0,lo,hi) m0 ?_ (fun _ i hi=>by have:=hWr i hi;simp at this ⊢) ?_)
  ·subst hS
   exact⟨⟨⟨rfl,rfl,fun _=>rfl⟩,⟨rfl,rfl,fun _=>rfl⟩,⟨rfl,rfl,fun _=>rfl⟩,⟨rfl,rfl,fun _=>rfl⟩,⟨rfl,rfl,fun _=>rfl⟩,⟨rfl,rfl,fun _=>rfl⟩,⟨rfl,rfl,fun _=>rfl⟩,⟨rfl,rfl,fun _=>rfl⟩,⟨rfl,rfl,fun _=>rfl⟩,⟨rfl,rfl,fun _=>rfl⟩,⟨rfl,rfl,fun _=>rfl⟩,⟨rfl,rfl,fun _=>rfl⟩,⟨rfl,rfl,fun _=>rfl⟩,trivial⟩,⟨aF rfl,aF rfl,aF rfl,aF rfl,aF rfl,aF rfl,trivial⟩,rfl,rfl⟩
  clear m0
  rintro⟨j,c,lo,hi⟩ hI A3 L3 k3 hA3 hL3 hnext3 hexit3 hret3
  have st:=fun hb:A3.cmp .lss j (S.size y.d)=true=>J6 hI A3 hA3 (S.size y.d) (by subst hS;rfl) hb _ _ _ rfl rfl rfl
  have en:=fun hb:A3.cmp .lss j (S.size y.d)=false=>Nr hI A3 hA3 (S.size y.d) (by subst hS;rfl) hb _ _ rfl rfl
  clear hI
  rw[← hA3, ← hS, ← hV]
  cbv
  repeat' with_reducible first | (intro hb;cbv) | refine UM ?_ ?_
  all_goals first | replace st:=st hb | skip
  all_goals first | exact st.o1 | exact st.o2 | exact st.o3 | exact st.o4 | exact st.o5 | exact st.o6 | exact st.o7 | exact st.o8 | skip
  ·refine hnext3 _ (j+1,_,_,_) st.nx st.ms ?_
   replace st:=st.ad
   subst hS
   exact⟨⟨⟨rfl,rfl,leI st⟩,⟨rfl,rfl,fun _=>rfl⟩,⟨rfl,rfl,fun _=>rfl⟩,⟨rfl,rfl,fun _=>rfl⟩,⟨rfl,rfl,fun _=>rfl⟩,⟨rfl,rfl,fun _=>rfl⟩,⟨rfl,rfl,fun _=>rfl⟩,⟨rfl,rfl,fun _=>rfl⟩,⟨rfl,rfl,fun _=>rfl⟩,⟨rfl,rfl,fun _=>rfl⟩,⟨rfl,rfl,fun _=>rfl⟩,⟨rfl,rfl,fun _=>rfl⟩,⟨rfl,rfl,fun _=>rfl⟩,trivial⟩,⟨aF rfl,aF rfl,aF rfl,aF rfl,aF rfl,aF rfl,trivial⟩,rfl,rfl⟩
  ·apply hexit3
   have em:=en hb
   have eA:A3=A2:=hA3.trans hA2.symm
   rw[eA] at em
   clear hexit3 hnext3 hret3 st en
   cbv
   repeat' with_reducible first | (intro hb;cbv) | refine UM ?_ ?_
   all_goals first | exact em.o1 | exact em.o2 | exact em.o3 | exact em.o4 | skip
   refine hnext _ (i+1,_,_) em.nx em.ms ?_
   have ead:=em.ad
   clear em
   subst hS
   exact⟨⟨⟨rfl,rfl,leI ead⟩,⟨rfl,rfl,fun _=>rfl⟩,⟨rfl,rfl,fun _=>rfl⟩,⟨rfl,rfl,fun _=>rfl⟩,⟨rfl,rfl,fun _=>rfl⟩,⟨rfl,rfl,fun _=>rfl⟩,⟨rfl,rfl,fun _=>rfl⟩,⟨rfl,rfl,fun _=>rfl⟩,⟨rfl,rfl,fun _=>rfl⟩,trivial⟩,⟨aF rfl,aF rfl,aF rfl,aF rfl,aF rfl,aF rfl,trivial⟩,rfl,rfl⟩
 ·intro hb
  apply hexit
  have me:=me hb
  clear hexit hnext hret m0 hb
  have fz:=bJ A hA
  cbv
  repeat' with_reducible first | (intro hb;cbv) | refine UM ?_ ?_
  all_goals try (exact fz _ _ (by decide))
  have r0:OvI hi 0:=⟨Int.le_refl 0,by decide,by simp[Nat.mod_one]⟩
  have mo:=F2 x y
  have mf:=Ke x y
  refine hL _ _ _ (aQ (un:=⟨false,some [2,3,4,5,10,72,73,74,16,75,79]⟩) tok wO aL (fun k:Int=>⟨[(74,⟨[], .c (.s (.int .i64 k))⟩),(73,⟨[], .c (.s (.int .i64 (aA.isub 64 32)))⟩),(72,⟨[], .c (.s (.ha 5 0 1 32 64 64))⟩),(2,⟨[], .c (.s (.hp 0 0))⟩),(3,⟨[], .c (.s (.hp 1 0))⟩),(4,⟨[], .c (.s (.hp 2 0))⟩),(10,⟨[], .c (.s (.hp 5 0))⟩)],[(0, .fix true [.W x]),(1, .fix true [.W y]),(2, .fix true [.W ⟨false,Dg.zero⟩]),(5, .fix true [.D lo, .D hi])],6⟩)
   (fun k=>OvI hi k) (fun k=>(32 - k).toNat) 0 r0 ?_ (fun _ i hi=>by have:=hWr i hi;simp at this ⊢) ?_)
  ·subst hA
   exact⟨⟨⟨rfl,rfl,fun _=>rfl⟩,⟨rfl,rfl,fun _=>rfl⟩,⟨rfl,rfl,fun _=>rfl⟩,⟨rfl,rfl,fun _=>rfl⟩,⟨rfl,rfl,fun _=>rfl⟩,⟨rfl,rfl,fun _=>rfl⟩,⟨rfl,rfl,fun _=>rfl⟩,trivial⟩,⟨aF rfl,aF rfl,aF rfl,aF rfl,trivial⟩,rfl,rfl⟩
  clear r0
  rintro k hI A3 L3 k3 hA3 hL3 hnext3 hexit3 hret3
  have st:=fun hb:A3.cmp .lss k (A3.isub 64 32)=true=>K4 (lo:=lo) hI A3 hA3 hb
  have en:=fun hb:A3.cmp .lss k (A3.isub 64 32)=false=>Od hI A3 hA3 hb
  clear hI
  have fz:=bJ A3 hA3
  rw[← hA3, ← hS, ← hV]
  cbv
  repeat' with_reducible first | (intro hb;cbv) | refine UM ?_ ?_
  all_goals try (exact fz _ _ (by decide))
  all_goals first | exact(st hb).o1 | exact(st hb).o2 | exact(st hb).o3 | exact(st hb).o4 | skip
  ·rename_i hb0
   have hn:=(st hb0).nz hb
   have hov:2 ^ 1024≤x.d.n*y.d.n:=by
    rw[← me]
    unfold N2
    have:2 ^ 1024*1≤2 ^ 1024*hi.n:=Nat.mul_le_mul_left _ (by omega)
    omega
   have mo:=mo hov
   apply hret3
   clear hexit3 hnext3 hret3 st en
   cbv
   refine hk _ _ (bE.pure rfl fun ρ=>?_)
   subst hV
   exact BS mo.1.symm mo.2.symm
  ·rename_i hb0
   refine hnext3 _ (k+1) ((st hb0).nx hb) (st hb0).ms ?_
   have ead:=(st hb0).ad
   subst hA3
   exact⟨⟨⟨rfl,rfl,leI ead⟩,⟨rfl,rfl,fun _=>rfl⟩,⟨rfl,rfl,fun _=>rfl⟩,⟨rfl,rfl,fun _=>rfl⟩,⟨rfl,rfl,fun _=>rfl⟩,⟨rfl,rfl,fun _=>rfl⟩,⟨rfl,rfl,fun _=>rfl⟩,trivial⟩,⟨aF rfl,aF rfl,aF rfl,aF rfl,trivial⟩,rfl,rfl⟩
  ·have h0:=en hb
   have hlo:lo.n=x.d.n*y.d.n:=by rw[← me];unfold N2;rw[h0];rfl
   have mf:=mf lo hlo
   apply hexit3
   have fz:=bJ A hA
   clear hexit3 hnext3 hret3 st en
   cbv
   repeat' with_reducible first | (intro hb;cbv) | refine UM ?_ ?_
   all_goals try (exact fz _ _ (by decide))
   refine hk _ _ (bE.pure rfl fun ρ=>?_)
   subst hV hS hA
   exact BS mf.1.symm mf.2.symm
def R9 (A:Alg) (S:SW) (V:SV):List (Nat×bU):=(194,aC [.v, .v] A (JG V)) :: ((R8 A S V))
theorem OQ:COK Tryz.prog (aN (R9 aA aV aS)):=aB K3 (wO)
end Go.Eng
