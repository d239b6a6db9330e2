
import Derived.Test.YtlonkgccgccieaaNB0
set_option linter.all false
set_option exponentiation.threshold 3000
set_option maxRecDepth 100000
set_option maxHeartbeats 4000000
namespace Go.Eng
open Go.Proofs
def akQ (A:Alg):List CV→List Blk→Option LW
 | [.s (.hs 0), .s (.int .u8 b)],[.vec false .pt l]=>some ⟨[A.cmp .leq 0 b,A.cmp .lss b 256], .c (.s (.bool true)),[],[]⟩
 | _,_=>none
def alI (A:Alg) (V:SV) (S:SW) (H:SH) (b:Int):Pt:=⟨⟨V.shift (S.from64 1) (A.bin .add .i64 60 (A.wrap .i64 b)),S.from64 1⟩,H.whole 0⟩
theorem ak4: ∀ b:Nat,b < 256→dJ ⟨⟨aS.shift (aV.from64 1) (60+(b:Int)),aV.from64 1⟩,bD.whole 0⟩=false:=by decide +kernel
theorem ak5 {b:Int} (h0:0≤b) (h1:b < 256):dJ (alI aA aS aV bD b)=false:=by
 have e:aA.bin .add .i64 60 (aA.wrap .i64 b)=60+b:=by
  have w1:aA.wrap .i64 b=b:=by show IntKind.i64.wrap _=_;rw[IntKind.wrap_i64];omega
  rw[w1];show IntKind.i64.wrap _=_;rw[IntKind.wrap_i64];omega
 unfold alI
 rw[e]
 have:=ak4 b.toNat (by omega)
 rw[Int.toNat_of_nonneg h0] at this
 exact this
theorem ajN (l m:List Pt): ∀ k,k≤l.length→ac3 (l++m) k=ac3 l k
 | 0,_=>rfl
 | k+1,hk=>by
  have e:pC (l++m) k=pC l k:=by
   rw[eD (by rw[List.length_append];omega),eD (by omega),List.getElem_append_left]
  unfold ac3
  rw[e,ajN l m k (by omega)]
theorem aj3 {l:List Pt} {p:Pt} (h:dJ p=false):f7.srt (l++[p])=f7.srt l:=by
 show ac3 (l++[p]) (l++[p]).length=ac3 l l.length
 rw[List.length_append,List.length_singleton]
 have e:pC (l++[p]) l.length=p:=by
  rw[eD (by rw[List.length_append,List.length_singleton];omega),List.getElem_append_right (Nat.le_refl _)];simp
 show(if dJ (pC (l++[p]) l.length) then _ else ac3 (l++[p]) l.length)=_
 rw[e,if_neg (by rw[h];decide),ajN l [p] l.length (Nat.le_refl _)]
structure al1 (A:Alg) (I:SP) (l:List Pt) (p:Pt):Prop where
 c1:A.cmp .leq (A.len l) 1000000=true
 c2:A.cmp .leq (A.iadd (A.len l) (A.len [p])) 1000000=true
 c3:A.cmp .lss (A.len (A.app l [p])) 100000=true
 c4:A.cmp .lss (A.len l) 100000=true
 c5:A.cmp .lss (A.len (I.srt (A.app l [p]))) 1000000=true
 c6:A.cmp .lss (A.len (I.srt l)) 1000000=true
 c7: ∀ u,A.imp u (A.cmp .lss (A.len (I.srt (A.app l [p]))) 1000000)=true
 e:A.ite (I.same (I.srt (A.app l [p])) (I.srt l)) (A.cmp .eql (I.find (I.srt (A.app l [p])) p) (-1)) false=true
theorem alX (A:Alg) (hA:A=aA) (V:SV) (hV:V=aS) (S:SW) (hS:S=aV) (H:SH) (hH:H=bD) (I:SP) (hI:I=f7) {l:List Pt} {b:Int} (h0:0≤b) (h1:b < 256) (hb:A.cmp .gtr (A.len l) 12=false):al1 A I l (alI A V S H b):=by
 subst hA hV hS hH hI
 have hb: ¬ (l.length:Int) > 12:=of_decide_eq_false hb
 have hp:=ak5 h0 h1
 generalize alI aA aS aV bD b=p at hp ⊢
 have hs:=acO l l.length
 have es:f7.srt (aA.app l [p])=f7.srt l:=aj3 hp
 have hs2:((f7.srt l).length:Int) < 1000000:=by show((ac3 l l.length).length:Int) < _;omega
 have c5:aA.cmp .lss (aA.len (f7.srt (aA.app l [p]))) 1000000=true:=by rw[es];exact bH _ rfl _ _ hs2
 have l1:((l++[p]).length:Int)=l.length+1:=by simp
 have l2:(([p]:List Pt).length:Int)=1:=by simp
 have l3:(l.length:Int)+(([p]:List Pt).length:Int)≤1000000:=by omega
 have l5:(l.length:Int) < 100000:=by omega
 have l6:(l.length:Int)≤1000000:=by omega
 have l4:((l++[p]).length:Int) < 100000:=by omega
 refine⟨bJ _ rfl _ _ l6,bJ _ rfl _ _ l3,?_,?_,c5,bH _ rfl _ _ hs2,fun u=>by rw[c5];cases u <;> rfl,?_⟩
 ·exact bH _ rfl _ _ l4
 ·exact bH _ rfl _ _ l5
 have e1:f7.same (f7.srt (aA.app l [p])) (f7.srt l)=true:=decide_eq_true es
 have e2:f7.find (f7.srt (aA.app l [p])) p= -1:=by
  show(if dJ p&&i8 _ p then _ else(-1:Int))= -1
  rw[hp];rfl
 rw[e1,e2];rfl
def nB1 (A:Alg) (S:SW) (H:SH) (I:SP) (V:SV):List (Nat×bU):=(35,aR [] A (aiD)) :: (45,aC [.v] A (Ba A S)) :: (44,aC [.v, .v] A (alH V)) :: (41,aC [.v] A (qO A H)) :: (37,aR [.a (.s .pt)] A (ajA A I)) :: (39,aR [.a (.s .pt), .a .v] A (ajG A I)) :: (40,aR [.a (.s .pt), .a (.s .pt)] A (afG A I)) :: ([])
theorem alR:COK Try.prog (aN (nB1 aA aV bD f7 aS)):=aB aiI (aB Gu (aB ajJ (aB rC (aB aiL (aB aiT (aB adL (bC)))))))
theorem ajB:aJ Try.prog 11 (aR [.a (.s .pt), .a .v] aA (akQ aA)):=by
 refine aW (un:=⟨false,some [0,1,4,5,7,8,10,13]⟩) tok alR aL (fn:=Try.f11) ?_
 intro w Wr args bs r hg ho hWr A L k hA hL hk
 obtain⟨H,hH⟩:=exE bD
 obtain⟨I,hI⟩:=exE f7
 obtain⟨S,hS⟩:=exE aV
 obtain⟨V,hV⟩:=exE aS
 try rw[← hH]
 try rw[← hI]
 try rw[← hS]
 try rw[← hV]
 try rw[← hA]
 unfold akQ at hg
 split at hg <;> cases hg
 rename_i b l
 have h0:0≤b:=of_decide_eq_true (aG ho).1
 have h1:b < 256:=of_decide_eq_true (aG (aG ho).2).1
 clear ho
 have f:=fun hb=>alX A hA V hV S hS H hH I hI (l:=l) h0 h1 hb
 cbv
 repeat' with_reducible first | (intro hb;cbv) | refine UM ?_ ?_
 ·exfalso;subst hA;cases hb
 ·exact hk _ _ (bW.pure rfl rfl fun ρ=>dT rfl)
 all_goals first | (have f:=f (by assumption);first | exact f.c1 | exact f.c2 | exact f.c3 | exact f.c4 | exact f.c5 | exact f.c6 | exact f.c7 _) | ((try subst hA);(try subst hS);(try subst hR);(try subst hX);(try subst hC);(try subst hV);(try subst hT);(try subst hM);(try subst hF);(try subst hH);(try subst hK);(try subst hJ);(try subst hE);(try subst hD);(try subst hU);(try subst hW);(try subst hI);(try subst hP);decide +kernel) | skip
 have f:=f (by assumption)
 exact hk _ _ (bW.pure rfl rfl fun ρ=>dB f.e)
end Go.Eng
