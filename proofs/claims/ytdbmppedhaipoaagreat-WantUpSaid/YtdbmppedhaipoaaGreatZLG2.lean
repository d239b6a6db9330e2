
import Derived.Test.YtdbmppedhaipoaaGreatZLG0
import Derived.Test.YtdbmppedhaipoaaGreatZLE2
import Derived.Test.YtdbmppedhaipoaaGreatSpecBA
set_option linter.all false
set_option exponentiation.threshold 3000
set_option maxRecDepth 100000
set_option maxHeartbeats 2000000
namespace Go.Eng
open Go.Proofs
def gWU (A:Alg) (U:SU):List CV→List Blk→Option LW
 | [.g [.s (.hs 0), .s (.hs 1), .s (.hs 2)], .g [.s (.int .i64 g), .s (.int .i64 c), .s (.hs 3)], .g [.s (.int .i64 x), .s (.int .i64 y), .s (.int .i64 s)]],[.vec false .i3 V, .vec false .i3 S, .vec false .pt l, .vec false .i3 Z]=>some ⟨[A.cmp .leq (-9223372036854775808) g,A.cmp .lss g 9223372036854775808,A.cmp .leq (-9223372036854775808) c,A.cmp .lss c 9223372036854775808,U.inb V,U.inb S,U.inb Z], .c (.s (.bool true)),[],[]⟩
 | _,_=>none
def abX (A:Alg) (V S:List (Int×Int×Int)) (l:List Pt):Bool:=A.ite (A.ite (A.cmp .leq (A.len V) 18) (A.cmp .leq (A.len S) 18) false) (A.cmp .leq (A.len l) 6) false
def aa6 (A:Alg) (C:SC) (V S:List (Int×Int×Int)) (l:List Pt) (Z:List (Int×Int×Int)) (x y s:Int):Bool:=A.ite (A.ite (A.ite (A.not (abX A V S l)) true (A.cmp .gtr (A.len Z) 6)) true (A.not (C.is x y s))) true (A.cmp .eql s 1)
def abW (A:Alg) (W:SI) (V S:List (Int×Int×Int)) (l:List Pt) (g c:Int) (Z:List (Int×Int×Int)) (x y X Y h:Int):Bool:=A.ite (A.ite (A.ite (W.must V S l g c Z x y h) true (W.must V S l g c Z X y h)) true (W.must V S l g c Z x Y h)) true (W.must V S l g c Z X Y h)
def abY (A:Alg) (W:SI) (g c:Int) (Z:List (Int×Int×Int)) (x y X Y h:Int):Int:=A.mn (A.mn (A.mn (A.mn 64 (W.lim g c Z x y h)) (W.lim g c Z X y h)) (W.lim g c Z x Y h)) (W.lim g c Z X Y h)
def abZ (A:Alg) (W:SI) (V S:List (Int×Int×Int)) (l:List Pt) (g c:Int) (Z:List (Int×Int×Int)) (x y s X Y h:Int):Bool:=A.ite (A.ite (A.not (abW A W V S l g c Z x y X Y h)) true (W.must V S l g c Z x y s)) (A.cmp .eql (W.lim g c Z x y s) (abY A W g c Z x y X Y h)) false
structure WuF (A:Alg) (W:SI) (C:SC) (V S:List (Int×Int×Int)) (l:List Pt) (g c:Int) (Z:List (Int×Int×Int)) (x y s:Int):Prop where
 o1:aa6 A C V S l Z x y s=false→C.is x y s=true
 o2:aa6 A C V S l Z x y s=false→A.cmp .neq s 1=true
 v:aa6 A C V S l Z x y s=false→abZ A W V S l g c Z x y s (A.bin .add .i64 x (A.bin .quo .i64 s 2)) (A.bin .add .i64 y (A.bin .quo .i64 s 2)) (A.bin .quo .i64 s 2)=true
theorem acH (A:Alg) (hA:A=aA) (W:SI) (hW:W=UW) (C:SC) (hC:C=UT) (V S:List (Int×Int×Int)) (l:List Pt) (g c:Int) (Z:List (Int×Int×Int)) (x y s:Int):WuF A W C V S l g c Z x y s:=by
 subst hA hW hC
 have it: ∀ u v:Bool,aA.ite u true v=(u||v):=fun u v=>by cases u <;> rfl
 have ia: ∀ u v:Bool,aA.ite u v false=(u&&v):=fun u v=>by cases u <;> rfl
 have key:aa6 aA UT V S l Z x y s=false→Vq x y s=true∧s≠1:=fun h=>by
  unfold aa6 at h
  rw[it,it,it] at h
  have h:(((!abX aA V S l||aA.cmp .gtr (aA.len Z) 6)|| !Vq x y s)||(s == 1))=false:=h
  simp only[Bool.or_eq_false_iff,Bool.not_eq_false'] at h
  exact⟨h.1.2,by have:=h.2;simpa using this⟩
 refine⟨fun h=>(key h).1,fun h=>?_,fun h=>?_⟩
 ·show(s != 1)=true
  simpa using (key h).2
 ·obtain⟨h1,h2⟩:=key h
  have ce:=Vb h1
  have eh:aA.bin .quo .i64 s 2=s / 2:=by
   show IntKind.i64.wrap (s.tdiv 2)=_
   have:=ce.s0
   have:=ce.s1
   rw[IntKind.wrap_i64,Int.tdiv_eq_ediv_of_nonneg (by omega)];omega
  have f:=ZA h1 h2 rfl
  have ex:aA.bin .add .i64 x (s / 2)=x+s / 2:=by
   show IntKind.i64.wrap _=_
   have:=ce.x0;have:=ce.x1;have:=ce.s0
   rw[IntKind.wrap_i64];omega
  have ey:aA.bin .add .i64 y (s / 2)=y+s / 2:=by
   show IntKind.i64.wrap _=_
   have:=ce.y0;have:=ce.y1;have:=ce.s0
   rw[IntKind.wrap_i64];omega
  unfold abZ abY abW
  rw[eh,ex,ey,ia,it,it,it,it]
  show((!(((Vz V S l g c Z x y (s / 2)||Vz V S l g c Z (x+s / 2) y (s / 2))||Vz V S l g c Z x (y+s / 2) (s / 2))||Vz V S l g c Z (x+s / 2) (y+s / 2) (s / 2))||Vz V S l g c Z x y s)&&(Vu g c Z x y s == aA.mn (aA.mn (aA.mn (aA.mn 64 (Vu g c Z x y (s / 2))) (Vu g c Z (x+s / 2) y (s / 2))) (Vu g c Z x (y+s / 2) (s / 2))) (Vu g c Z (x+s / 2) (y+s / 2) (s / 2))))=true
  rw[← ZY h1 f,beq_self_eq_true,Bool.and_true,Bool.or_eq_true,Bool.not_eq_true']
  cases hm:Vz V S l g c Z x y s
  ·left
   have no: ∀ {u v:Int},(u=x∨u=x+s / 2)→(v=y∨v=y+s / 2)→Vz V S l g c Z u v (s / 2)=false:=fun {u v} hu hv=>by
    cases hh:Vz V S l g c Z u v (s / 2)
    ·rfl
    ·rw[Z6 h1 f hu hv hh] at hm;cases hm
   rw[no (.inl rfl) (.inl rfl),no (.inr rfl) (.inl rfl),no (.inl rfl) (.inr rfl),no (.inr rfl) (.inr rfl)];rfl
  ·right;rfl
def uK2 (A:Alg) (U:SU) (W:SI) (C:SC):List (Nat×bU):=(23,aR [] A (x6)) :: (24,aR [.g [.s .i3, .s .i3, .s .pt]] A (PR A)) :: (25,aR [.g [.s .i3, .s .i3, .s .pt], .g [.v, .v, .s .i3], .a .v] A (VI U W)) :: (27,aR [.g [.v, .v, .s .i3], .a .v] A (WT W)) :: (15,aC [.v] A (Wq C)) :: (20,aC [.v] A (XG A C)) :: ([])
theorem abU:COK Tryz.prog (aN (uK2 aA bN UW UT)):=aB VY (aB ZZ (aB V3 (aB Xh (aB Vk (aB W9 (bC))))))
theorem aaA:aJ Tryz.prog 8 (aR [.g [.s .i3, .s .i3, .s .pt], .g [.v, .v, .s .i3], .a .v] aA (gWU aA bN)):=by
 refine aW (un:=⟨true,some [0,1,2,3,4,5,6,7,8,9,10,12,31,35]⟩) tok abU aL (fn:=Tryz.f8) ?_
 intro w Wr args bs r hg ho hWr A L k hA hL hk
 obtain⟨C,hC⟩:=exE UT
 obtain⟨U,hU⟩:=exE bN
 obtain⟨W,hW⟩:=exE UW
 try rw[← hC]
 try rw[← hU]
 try rw[← hW]
 try rw[← hA]
 unfold gWU at hg
 split at hg <;> cases hg
 rename_i g c x y s V S l Z
 have bv:=(aG (aG (aG (aG (aG ho).2).2).2).2).1
 rw[← hU] at bv
 clear ho
 have f:=acH A hA W hW C hC V S l g c Z x y s
 have im: ∀ b c,c=true→A.imp b c=true:=fun b c h=>by rw[h,hA];cases b <;> rfl
 cbv
 repeat' first | ((with_reducible intro hb);cbv) | with_reducible refine And.intro ?_ ?_
 all_goals first | exact bv | exact im _ _ bv | exact f.o1 (by assumption) | exact f.o2 (by assumption) | skip
 ·exfalso;subst hA;cases hb
 ·exact hk _ _ (bW.pure rfl rfl fun ρ=>dT rfl)
 ·exact hk _ _ (bW.pure rfl rfl fun ρ=>dB (f.v (by assumption)))
end Go.Eng
