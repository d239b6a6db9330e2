
import Derived.Test.YtbfknjpggfkgjaaGreatCellSA
import Derived.Test.YtbfknjpggfkgjaaGreatYCellT
set_option linter.all false
set_option exponentiation.threshold 3000
set_option maxRecDepth 100000
set_option maxHeartbeats 2000000
namespace Go.Eng
open Go.Proofs
def noC:Nat→Option bU:=fun _=>none
theorem nF:COK Tryz.prog noC:=fun _ _ h=>by cases h
def JN (S:SW):List CV→List Blk→Option LR
 | [.s (.hp 0 0)],[.fix false [.D d]]=>some ⟨[], .c (.s (.int .i64 (S.size d))),[]⟩
 | _,_=>none
theorem KT:aJ Tryz.prog 204 (aC [.pd] aA (JN aV)):=by
 refine aH (un:=⟨false,none⟩) tok nF aL (fn:=Tryz.f204) ?_
 intro w Wr args bs r hg ho hWr A L k hA hL hk
 unfold JN at hg
 split at hg
 ·simp only[Option.some.injEq] at hg
  subst hg
  rename_i d
  cbv
  refine hL _ _ _ (aQ (un:=⟨false,none⟩) tok nF aL (fun n:Int=>⟨[(3,⟨[], .c (.s (.int .i64 n))⟩),(2,⟨[], .c (.s (.lit .i64 0))⟩),(0,⟨[], .c (.s (.hp 0 0))⟩)],[(0, .fix false [.D d])],1⟩)
   (fun n=>0≤n∧n≤32∧d.n < 2 ^ (32*n.toNat)) (fun n=>n.toNat) 32 ⟨by omega,by omega,D6 ▸ d.lt⟩
   ⟨⟨⟨rfl,rfl,fun _=>rfl⟩,⟨rfl,rfl,fun _=>rfl⟩,⟨rfl,rfl,fun _=>rfl⟩,trivial⟩,⟨⟨rfl,rfl,fun _=>rfl⟩,trivial⟩,rfl,rfl⟩ (fun _ i hi=>hWr i hi) ?_)
  intro n ⟨h0,h32,hlt⟩ A' L' k' hA' hL' hnext hexit hret
  cbv
  repeat' first | (with_reducible intro hb;cbv) | with_reducible refine And.intro ?_ ?_
  ·simp only[hA',aA,aP,aD,IntKind.wrap_i64,bM,beq_true,Bool.or_eq_true,Bool.not_eq_true',decide_eq_true_eq,decide_eq_false_iff_not];omega
  ·simp only[hA',aA,aP,aD,IntKind.wrap_i64,bM,beq_true,Bool.or_eq_true,Bool.not_eq_true',decide_eq_true_eq,decide_eq_false_iff_not];omega
  ·simp only[hA',aA,aP,aD,IntKind.wrap_i64,bM,beq_true,Bool.or_eq_true,Bool.not_eq_true',decide_eq_true_eq,decide_eq_false_iff_not];omega
  ·simp only[hA',aA,aP,aD,IntKind.wrap_i64,bM,beq_true,Bool.or_eq_true,Bool.not_eq_true',decide_eq_true_eq,decide_eq_false_iff_not];omega
  ·have hx:A'.bin .sub .i64 n 1=n - 1:=by simp only[hA',aA,aD,IntKind.wrap_i64];omega
   simp only[hx] at hb ⊢
   simp only[hA',aA,aP] at hb
   split at hb
   ·rename_i hn
    simp only[decide_eq_true_eq,beq_iff_eq,Int.natCast_eq_zero] at hn hb
    refine hnext _ (n - 1) ⟨by omega,by omega,?_⟩ (by show(n - 1).toNat < n.toNat;omega) ⟨⟨⟨rfl,rfl,fun _=>rfl⟩,⟨rfl,rfl,fun _=>rfl⟩,⟨rfl,rfl,fun _=>rfl⟩,trivial⟩,⟨⟨rfl,rfl,fun _=>rfl⟩,trivial⟩,rfl,rfl⟩
    exact(oT d _ (by rw[show(n - 1).toNat+1=n.toNat from by omega];exact hlt)).1 hb
   ·cases hb
  ·apply hexit
   cbv
   refine hk _ _ (bE.pure rfl fun ρ=>?_)
   have hx:A'.bin .sub .i64 n 1=n - 1:=by simp only[hA',aA,aD,IntKind.wrap_i64];omega
   simp only[hx] at hb
   simp only[hA',aA,aP] at hb
   show Value.int .i64 n= .int .i64 (bA d:Int)
   rw[Fw (n:=n.toNat) hlt]
   ·congr 1;omega
   ·split at hb
    ·rename_i hn
     simp only[decide_eq_true_eq,beq_eq_false_iff_ne,ne_eq,Int.natCast_eq_zero] at hn hb
     right
     have:=(oT d (n - 1).toNat (by rw[show(n - 1).toNat+1=n.toNat from by omega];exact hlt))
     rw[show(n - 1).toNat=n.toNat - 1 from by omega] at this hb
     rw[this] at hb
     omega
    ·rename_i hn
     simp only[decide_eq_true_eq] at hn
     left;omega
 ·cases hg
def PN (S:SW):List CV→List Blk→Option LR
 | [.s (.hp 0 0), .s (.hp 1 0)],[.fix false [.D d], .fix false [.D e]]=>some ⟨[], .c (.s (.int .i64 (S.dcmp d e))),[]⟩
 | _,_=>none
def gOf:List CV→List Blk→Option LR
 | [.g [.W w]],[]=>some ⟨[], .c (.s (.hp 0 0)),[.fix true [.D w.d]]⟩
 | _,_=>none
theorem QC:aJ Tryz.prog 203 (aC [.v] aA gOf):=by
 refine aH (un:=⟨false,none⟩) tok nF aL (fn:=Tryz.f203) ?_
 intro w Wr args bs r hg ho hWr A L k hA hL hk
 unfold gOf at hg
 split at hg
 ·simp only[Option.some.injEq] at hg
  subst hg
  cbv
  refine hk _ _ ⟨[1],rfl,by simp,by simp,fun ρ=>rfl,fun i t b ht hb=>?_⟩
  cases i with
  | zero=>simp at ht hb;subst ht hb;exact⟨_,rfl,rfl,rfl,fun _=>rfl⟩
  | succ i=>simp at ht
 ·cases hg
theorem NX:aJ Tryz.prog 206 (aC [.pd, .pd] aA (PN aV)):=by
 refine aH (un:=⟨false,none⟩) tok nF aL (fn:=Tryz.f206) ?_
 intro w Wr args bs r hg ho hWr A L k hA hL hk
 unfold PN at hg
 split at hg
 ·simp only[Option.some.injEq] at hg
  subst hg
  rename_i d e
  cbv
  refine hL _ _ _ (aQ (un:=⟨false,none⟩) tok nF aL (fun n:Int=>⟨[(5,⟨[], .c (.s (.int .i64 n))⟩),(4,⟨[], .c (.s (.lit .i64 0))⟩),(0,⟨[], .c (.s (.hp 0 0))⟩),(1,⟨[], .c (.s (.hp 1 0))⟩)],[(0, .fix false [.D d]),(1, .fix false [.D e])],2⟩)
   (fun n=> -1≤n∧n≤31∧f8 d e (n+1).toNat) (fun n=>(n+1).toNat) 31 ?_ ?_ (fun _ i hi=>hWr i hi) ?_)
  ·exact⟨by omega,by omega,wI d e⟩
  ·exact⟨⟨⟨rfl,rfl,fun _=>rfl⟩,⟨rfl,rfl,fun _=>rfl⟩,⟨rfl,rfl,fun _=>rfl⟩,⟨rfl,rfl,fun _=>rfl⟩,trivial⟩,⟨⟨rfl,rfl,fun _=>rfl⟩,⟨rfl,rfl,fun _=>rfl⟩,trivial⟩,rfl,rfl⟩
  intro n ⟨h0,h32,hlt⟩ A' L' k' hA' hL' hnext hexit hret
  cbv
  repeat' first | (with_reducible intro hb;cbv) | with_reducible refine And.intro ?_ ?_
  all_goals try (clear hexit hnext hret hk hL hL';subst hA';simp only[aA,aP,aD,IntKind.wrap_i64,bM,decide_eq_true_eq,decide_eq_false_iff_not] at *;omega)
  ·apply hret
   cbv
   refine hk _ _ (bE.pure rfl fun ρ=>?_)
   rename_i hb0
   simp only[hA',aA,aP,decide_eq_true_eq] at hb hb0
   show Value.int .i64 (-1)= .int .i64 (sgn d.n e.n)
   have:=rP (d:=d) (e:=e) (n:=n.toNat) (by rw[show n.toNat+1=(n+1).toNat from by omega];exact hlt) (by omega)
   unfold sgn
   rw[if_pos (by omega)]
  ·apply hret
   cbv
   refine hk _ _ (bE.pure rfl fun ρ=>?_)
   rename_i hb1 hb0
   simp only[hA',aA,aP,decide_eq_true_eq] at hb hb0 hb1
   show Value.int .i64 1= .int .i64 (sgn d.n e.n)
   have:=rP (d:=e) (e:=d) (n:=n.toNat) (by rw[show n.toNat+1=(n+1).toNat from by omega];exact hlt.symm) (by omega)
   unfold sgn
   rw[if_neg (by omega),if_pos (by omega)]
  ·rename_i hb1 hb0
   simp only[hA',aA,aP,decide_eq_true_eq,decide_eq_false_iff_not] at hb hb0 hb1
   have hx:A'.bin .sub .i64 n 1=n - 1:=by simp only[hA',aA,aD,IntKind.wrap_i64];omega
   simp only[hx]
   refine hnext _ (n - 1) ?_ ?_ ?_
   ·refine⟨by omega,by omega,?_⟩
    rw[show(n - 1+1).toNat=n.toNat from by omega]
    exact yS (by rw[show n.toNat+1=(n+1).toNat from by omega];exact hlt) (by omega)
   ·show(n - 1+1).toNat < (n+1).toNat;omega
   ·exact⟨⟨⟨rfl,rfl,fun _=>rfl⟩,⟨rfl,rfl,fun _=>rfl⟩,⟨rfl,rfl,fun _=>rfl⟩,⟨rfl,rfl,fun _=>rfl⟩,trivial⟩,⟨⟨rfl,rfl,fun _=>rfl⟩,⟨rfl,rfl,fun _=>rfl⟩,trivial⟩,rfl,rfl⟩
  ·apply hexit
   cbv
   refine hk _ _ (bE.pure rfl fun ρ=>?_)
   simp only[hA',aA,aP,decide_eq_false_iff_not] at hb
   show Value.int .i64 0= .int .i64 (sgn d.n e.n)
   have:=vD (d:=d) (e:=e) (by rw[show(n+1).toNat=0 from by omega] at hlt;exact hlt)
   unfold sgn
   rw[if_neg (by omega),if_neg (by omega)]
 ·cases hg
def tC1 (A:Alg) (S:SW):List (Nat×bU):=[(203,aC [.v] A gOf),(204,aC [.pd] A (JN S)),(206,aC [.pd, .pd] A (PN S))]
theorem Hn:COK Tryz.prog (aN (tC1 aA aV)):=aB QC (aB KT (aB NX bC))
theorem j8 (d:Dg):0 < bA d↔d.n≠0:=by
 unfold bA
 split
 ·rename_i h;simp[h]
 ·rename_i h;simp[h]
def JQ (S:SW):List CV→List Blk→Option LR
 | [.s (.bool b), .s (.hp 0 0)],[.fix false [.D d]]=>some ⟨[], .c (.g [.W (S.told b d)]),[]⟩
 | _,_=>none
def gIs (S:SW):List CV→List Blk→Option LR
 | [.g [.W w]],[]=>some ⟨[], .c (.s (.bool (S.isW w))),[]⟩
 | _,_=>none
def mT (S:SW):List CV→List Blk→Option LR
 | [.g [.W w]],[]=>some ⟨[], .c (.s (.bool (S.below w))),[]⟩
 | _,_=>none
theorem KU:aJ Tryz.prog 188 (aC [.v, .pd] aA (JQ aV)):=by
 refine aH (un:=⟨false,none⟩) tok Hn aL (fn:=Tryz.f188) ?_
 intro w Wr args bs r hg ho hWr A L k hA hL hk
 obtain⟨S,hS⟩: ∃ S,S=aV:=⟨_,rfl⟩
 rw[← hS, ← hA]
 unfold JQ at hg
 split at hg
 ·simp only[Option.some.injEq] at hg
  subst hg
  rename_i b d
  cbv
  refine hk _ _ (bE.pure rfl fun ρ=>?_)
  subst hS hA
  show Value.agg (aI ρ [.W ⟨if b=true then decide ((bA d:Int) > 0) else false,d⟩]).toArray= .agg (aI ρ [.W (tld b d)]).toArray
  have h1:decide ((bA d:Int) > 0)=decide (d.n≠0):=by have:=j8 d;simp only[decide_eq_decide];omega
  rw[h1]
  cases b <;> rfl
 ·cases hg
theorem QB:aJ Tryz.prog 183 (aC [.v] aA (gIs aV)):=by
 refine aH (un:=⟨false,none⟩) tok Hn aL (fn:=Tryz.f183) ?_
 intro w Wr args bs r hg ho hWr A L k hA hL hk
 obtain⟨S,hS⟩: ∃ S,S=aV:=⟨_,rfl⟩
 rw[← hS, ← hA]
 unfold gIs at hg
 split at hg
 ·simp only[Option.some.injEq] at hg
  subst hg
  rename_i x
  cbv
  repeat' first | (with_reducible intro hb;cbv) | with_reducible refine And.intro ?_ ?_
  all_goals refine hk _ _ (bE.pure rfl fun ρ=>?_)
  all_goals subst hS hA
  all_goals have h1:decide ((bA x.d:Int) > 0)=decide (x.d.n≠0):=by have:=j8 x.d;simp only[decide_eq_decide];omega
  ·show Value.bool true= .bool (!x.neg||decide (x.d.n≠0))
   have hb:(!x.neg)=true:=hb
   rw[hb];rfl
  ·show Value.bool (decide ((bA x.d:Int) > 0))= .bool (!x.neg||decide (x.d.n≠0))
   have hb:(!x.neg)=false:=hb
   rw[hb,h1];rfl
 ·cases hg
theorem F7:aJ Tryz.prog 205 (aC [.v] aA (mT aV)):=by
 refine aH (un:=⟨false,none⟩) tok Hn aL (fn:=Tryz.f205) ?_
 intro w Wr args bs r hg ho hWr A L k hA hL hk
 obtain⟨S,hS⟩: ∃ S,S=aV:=⟨_,rfl⟩
 rw[← hS, ← hA]
 unfold mT at hg
 split at hg
 ·simp only[Option.some.injEq] at hg
  subst hg
  rename_i x
  cbv
  repeat' first | (with_reducible intro hb;cbv) | with_reducible refine And.intro ?_ ?_
  all_goals refine hk _ _ (bE.pure rfl fun ρ=>?_)
  all_goals subst hS hA
  all_goals have h1:decide ((bA x.d:Int) > 0)=decide (x.d.n≠0):=by have:=j8 x.d;simp only[decide_eq_decide];omega
  ·show Value.bool (decide ((bA x.d:Int) > 0))= .bool (x.neg&&decide (x.d.n≠0))
   have hb:x.neg=true:=hb
   rw[hb,h1];rfl
  ·show Value.bool false= .bool (x.neg&&decide (x.d.n≠0))
   have hb:x.neg=false:=hb
   rw[hb];rfl
 ·cases hg
def tC2 (A:Alg) (S:SW):List (Nat×bU):=(188,aC [.v, .pd] A (JQ S)) :: (183,aC [.v] A (gIs S)) :: (205,aC [.v] A (mT S)) :: tC1 A S
theorem Ho:COK Tryz.prog (aN (tC2 aA aV)):=aB KU (aB QB (aB F7 Hn))
def C2 (A:Alg) (S:SW):List CV→List Blk→Option LR
 | [.s (.int .u32 n)],[]=>some ⟨[A.cmp .leq 0 n,A.cmp .lss n 4294967296], .c (.s (.int .i64 (S.len32 n))),[]⟩
 | _,_=>none
def Ba (A:Alg) (S:SW):List CV→List Blk→Option LR
 | [.s (.int .i64 n)],[]=>some ⟨[A.cmp .leq (-9223372036854775808) n,A.cmp .lss n 9223372036854775808], .c (.g [.W (S.from64 n)]),[]⟩
 | _,_=>none
def PY (S:SW):List CV→List Blk→Option LR
 | [.g [.W w]],[]=>some ⟨[], .c (.g [.W (S.neg w)]),[]⟩
 | _,_=>none
def yB (S:SW):List CV→List Blk→Option LR
 | [.g [.W v], .g [.W w]],[]=>some ⟨[], .c (.s (.int .i64 (S.cmp v w))),[]⟩
 | _,_=>none
theorem N5:aJ Tryz.prog 184 (aC [.v] aA (PY aV)):=by
 refine aH (un:=⟨false,none⟩) tok Ho aL (fn:=Tryz.f184) ?_
 intro w Wr args bs r hg ho hWr A L k hA hL hk
 obtain⟨S,hS⟩:=exE aV
 try rw[← hS]
 try rw[← hA]
 unfold PY at hg
 split at hg <;> cases hg
 rename_i x
 cbv
 refine hk _ _ (bE.pure rfl fun ρ=>?_)
 subst hS hA
 rfl
theorem KZ:aJ Tryz.prog 193 (aC [.v, .v] aA (yB aV)):=by
 refine aH (un:=⟨false,none⟩) tok Ho aL (fn:=Tryz.f193) ?_
 intro w Wr args bs r hg ho hWr A L k hA hL hk
 obtain⟨S,hS⟩: ∃ S,S=aV:=⟨_,rfl⟩
 rw[← hS, ← hA]
 unfold yB at hg
 split at hg
 ·simp only[Option.some.injEq] at hg
  subst hg
  rename_i x y
  cbv
  repeat' first | (with_reducible intro hb;cbv) | with_reducible refine And.intro ?_ ?_
  all_goals refine hk _ _ (bE.pure rfl fun ρ=>?_)
  all_goals subst hS hA
  all_goals simp only[aA,aV] at *
  all_goals clear hL hk
  ·show Value.int .i64 (-1)= .int .i64 (sgn (aK x) (aK y))
   rw[tY]
   cases hx:aU x <;> cases hy:aU y <;> simp_all
  ·show Value.int .i64 1= .int .i64 (sgn (aK x) (aK y))
   rw[tY]
   cases hx:aU x <;> cases hy:aU y <;> simp_all
  ·show Value.int .i64 (sgn y.d.n x.d.n)= .int .i64 (sgn (aK x) (aK y))
   rw[tY]
   cases hx:aU x <;> cases hy:aU y <;> simp_all
  ·show Value.int .i64 (sgn x.d.n y.d.n)= .int .i64 (sgn (aK x) (aK y))
   rw[tY]
   cases hx:aU x <;> cases hy:aU y <;> simp_all
 ·cases hg
theorem Gi:aJ Tryz.prog 137 (aC [.v] aA (C2 aA aV)):=by
 refine aH (un:=⟨false,none⟩) tok nF aL (fn:=Tryz.f137) ?_
 intro w Wr args bs r hg ho hWr A L k hA hL hk
 unfold C2 at hg
 split at hg
 ·simp only[Option.some.injEq] at hg
  subst hg
  rename_i x
  simp only[List.forall_mem_cons,aA,aP,decide_eq_true_eq] at ho
  obtain⟨g1,g2, -⟩:=ho
  have s16:aD .shr .u32 x 16=x / 65536:=by
   show x.fdiv (2 ^ min (16:Int).toNat 32)=_
   rw[Int.fdiv_eq_ediv_of_nonneg _ (by decide)];rfl
  have s8: ∀ y:Int,aD .shr .u32 y 8=y / 256:=fun y=>by
   show y.fdiv (2 ^ min (8:Int).toNat 32)=_
   rw[Int.fdiv_eq_ediv_of_nonneg _ (by decide)];rfl
  have u8: ∀ y:Int,0≤y→y < 256→IntKind.u8.wrap y=y:=fun y h1 h2=>by rw[IntKind.wrap_u8];omega
  have fin: ∀ (c:Nat) (y:Int),0≤y→y < 256→c < 100→c+bP y.toNat=bP x.toNat→aD .add .i64 (c:Int) (IntKind.i64.wrap (aA.sb B0 (IntKind.u8.wrap y)))=((bP x.toNat:Nat):Int):=fun c y h1 h2 h3 h5=>by
   rw[u8 y h1 h2,JZ y h1 h2]
   have:bP x.toNat < 1000:=by
    unfold bP;split
    ·omega
    ·have:=(Nat.log2_lt (k:=32) (n:=x.toNat) (by omega)).2 (by omega);omega
   simp only[aD,IntKind.wrap_i64]
   omega
  have d16: ∀ h:65536≤x,bP x.toNat=16+bP (x / 65536).toNat:=fun h=>by
   rw[qT x.toNat 16 (by omega)];congr 2;omega
  have d8: ∀ y:Int,256≤y→bP y.toNat=8+bP (y / 256).toNat:=fun y h=>by
   rw[qT y.toNat 8 (by omega)];congr 2;omega
  have hr:aV.len32 x=bP x.toNat:=rfl
  cbv
  repeat' first | (with_reducible intro hb;cbv) | with_reducible refine And.intro ?_ ?_
  all_goals subst hA
  all_goals (rename_i hb0;have hb0:decide (x ≥ 65536)=_:=hb0;simp only[decide_eq_true_eq,decide_eq_false_iff_not] at hb0)
  ·have hb:decide (aD .shr .u32 x 16 ≥ 256)=true:=hb
   rw[s16] at hb;simp only[decide_eq_true_eq] at hb
   show decide (0≤IntKind.u8.wrap (aD .shr .u32 (aD .shr .u32 x 16) 8))=true
   rw[s16,s8,u8 _ (by omega) (by omega)];simp only[decide_eq_true_eq];omega
  ·have hb:decide (aD .shr .u32 x 16 ≥ 256)=true:=hb
   rw[s16] at hb;simp only[decide_eq_true_eq] at hb
   show decide (IntKind.u8.wrap (aD .shr .u32 (aD .shr .u32 x 16) 8) < aA.slen B0)=true
   rw[s16,s8,u8 _ (by omega) (by omega),mX];simp only[decide_eq_true_eq];omega
  ·have hb:decide (aD .shr .u32 x 16 ≥ 256)=true:=hb
   rw[s16] at hb;simp only[decide_eq_true_eq] at hb
   refine hk _ _ (bE.pure rfl fun ρ=>?_)
   show Value.int .i64 (aD .add .i64 24 (IntKind.i64.wrap (aA.sb B0 (IntKind.u8.wrap (aD .shr .u32 (aD .shr .u32 x 16) 8)))))= .int .i64 (aV.len32 x)
   rw[hr,s16,s8];refine congrArg _ (fin 24 (x / 65536 / 256) (by omega) (by omega) (by omega) ?_)
   have h1:=d16 (by omega)
   have h2:=d8 (x / 65536) (by omega)
   omega
  ·have hb:decide (aD .shr .u32 x 16 ≥ 256)=false:=hb
   rw[s16] at hb;simp only[decide_eq_false_iff_not] at hb
   show decide (0≤IntKind.u8.wrap (aD .shr .u32 x 16))=true
   rw[s16,u8 _ (by omega) (by omega)];simp only[decide_eq_true_eq];omega
  ·have hb:decide (aD .shr .u32 x 16 ≥ 256)=false:=hb
   rw[s16] at hb;simp only[decide_eq_false_iff_not] at hb
   show decide (IntKind.u8.wrap (aD .shr .u32 x 16) < aA.slen B0)=true
   rw[s16,u8 _ (by omega) (by omega),mX];simp only[decide_eq_true_eq];omega
  ·have hb:decide (aD .shr .u32 x 16 ≥ 256)=false:=hb
   rw[s16] at hb;simp only[decide_eq_false_iff_not] at hb
   refine hk _ _ (bE.pure rfl fun ρ=>?_)
   show Value.int .i64 (aD .add .i64 16 (IntKind.i64.wrap (aA.sb B0 (IntKind.u8.wrap (aD .shr .u32 x 16)))))= .int .i64 (aV.len32 x)
   rw[hr,s16];refine congrArg _ (fin 16 (x / 65536) (by omega) (by omega) (by omega) ?_)
   have:=d16 (by omega)
   omega
  ·have hb:decide (x ≥ 256)=true:=hb
   simp only[decide_eq_true_eq] at hb
   show decide (0≤IntKind.u8.wrap (aD .shr .u32 x 8))=true
   rw[s8,u8 _ (by omega) (by omega)];simp only[decide_eq_true_eq];omega
  ·have hb:decide (x ≥ 256)=true:=hb
   simp only[decide_eq_true_eq] at hb
   show decide (IntKind.u8.wrap (aD .shr .u32 x 8) < aA.slen B0)=true
   rw[s8,u8 _ (by omega) (by omega),mX];simp only[decide_eq_true_eq];omega
  ·have hb:decide (x ≥ 256)=true:=hb
   simp only[decide_eq_true_eq] at hb
   refine hk _ _ (bE.pure rfl fun ρ=>?_)
   show Value.int .i64 (aD .add .i64 8 (IntKind.i64.wrap (aA.sb B0 (IntKind.u8.wrap (aD .shr .u32 x 8)))))= .int .i64 (aV.len32 x)
   rw[hr,s8];refine congrArg _ (fin 8 (x / 256) (by omega) (by omega) (by omega) ?_)
   have:=d8 x (by omega)
   omega
  ·have hb:decide (x ≥ 256)=false:=hb
   simp only[decide_eq_false_iff_not] at hb
   show decide (0≤IntKind.u8.wrap x)=true
   rw[u8 _ (by omega) (by omega)];simp only[decide_eq_true_eq];omega
  ·have hb:decide (x ≥ 256)=false:=hb
   simp only[decide_eq_false_iff_not] at hb
   show decide (IntKind.u8.wrap x < aA.slen B0)=true
   rw[u8 _ (by omega) (by omega),mX];simp only[decide_eq_true_eq];omega
  ·have hb:decide (x ≥ 256)=false:=hb
   simp only[decide_eq_false_iff_not] at hb
   refine hk _ _ (bE.pure rfl fun ρ=>?_)
   show Value.int .i64 (aD .add .i64 0 (IntKind.i64.wrap (aA.sb B0 (IntKind.u8.wrap x))))= .int .i64 (aV.len32 x)
   rw[hr];refine congrArg _ (fin 0 x (by omega) (by omega) (by omega) ?_)
   omega
 ·cases hg
theorem Kt:aJ Tryz.prog 154 (aC [.v] aA (Ba aA aV)):=by
 refine aH (un:=⟨false,none⟩) tok Ho aL (fn:=Tryz.f154) ?_
 intro w Wr args bs r hg ho hWr A L k hA hL hk
 obtain⟨S,hS⟩: ∃ S,S=aV:=⟨_,rfl⟩
 rw[← hS, ← hA]
 unfold Ba at hg
 split at hg
 ·simp only[Option.some.injEq] at hg
  subst hg
  rename_i x
  simp only[List.forall_mem_cons,aA,aP,decide_eq_true_eq] at ho
  obtain⟨g1,g2, -⟩:=ho
  have hw: ∀ t:Int,0≤t→t < 18446744073709551616→0≤IntKind.u32.wrap (aD .and .u64 t 4294967295)∧IntKind.u32.wrap (aD .and .u64 t 4294967295) < 4294967296∧0≤IntKind.u32.wrap (aD .shr .u64 t 32)∧IntKind.u32.wrap (aD .shr .u64 t 32) < 4294967296:=fun t _ _=>by
   rw[IntKind.wrap_u32,IntKind.wrap_u32];omega
  cbv
  repeat' first | (with_reducible intro hb;cbv) | with_reducible refine And.intro ?_ ?_
  all_goals subst hS hA
  all_goals have hb:decide (x < 0)=_:=hb
  all_goals simp only[decide_eq_true_eq,decide_eq_false_iff_not] at hb
  all_goals have hn:x < 0→aD .sub .u64 0 (IntKind.u64.wrap x)= -x:=fun h=>by simp only[aD,cX];omega
  all_goals have hp:0≤x→IntKind.u64.wrap x=x:=fun h=>by rw[cX];omega
  ·show decide (0≤IntKind.u32.wrap (aD .and .u64 (aD .sub .u64 0 (IntKind.u64.wrap x)) 4294967295))=true
   rw[hn hb];simp only[decide_eq_true_eq];exact(hw _ (by omega) (by omega)).1
  ·show decide (IntKind.u32.wrap (aD .and .u64 (aD .sub .u64 0 (IntKind.u64.wrap x)) 4294967295) < 4294967296)=true
   rw[hn hb];simp only[decide_eq_true_eq];exact(hw _ (by omega) (by omega)).2.1
  ·show decide (0≤IntKind.u32.wrap (aD .shr .u64 (aD .sub .u64 0 (IntKind.u64.wrap x)) 32))=true
   rw[hn hb];simp only[decide_eq_true_eq];exact(hw _ (by omega) (by omega)).2.2.1
  ·show decide (IntKind.u32.wrap (aD .shr .u64 (aD .sub .u64 0 (IntKind.u64.wrap x)) 32) < 4294967296)=true
   rw[hn hb];simp only[decide_eq_true_eq];exact(hw _ (by omega) (by omega)).2.2.2
  ·refine hk _ _ (bE.pure rfl fun ρ=>?_)
   show Value.agg (aI ρ [.W (tld (decide (x < 0)) (aA.setD (aA.setD Dg.zero 0 (IntKind.u32.wrap (aD .and .u64 (aD .sub .u64 0 (IntKind.u64.wrap x)) 4294967295))) 1 (IntKind.u32.wrap (aD .shr .u64 (aD .sub .u64 0 (IntKind.u64.wrap x)) 32))))]).toArray= .agg (aI ρ [.W (tld (decide (x < 0)) (bX x.natAbs))]).toArray
   rw[hn hb,atN (-x) (by omega) (by omega),show(-x).toNat=x.natAbs from by omega]
  ·show decide (0≤IntKind.u32.wrap (aD .and .u64 (IntKind.u64.wrap x) 4294967295))=true
   rw[hp (by omega)];simp only[decide_eq_true_eq];exact(hw _ (by omega) (by omega)).1
  ·show decide (IntKind.u32.wrap (aD .and .u64 (IntKind.u64.wrap x) 4294967295) < 4294967296)=true
   rw[hp (by omega)];simp only[decide_eq_true_eq];exact(hw _ (by omega) (by omega)).2.1
  ·show decide (0≤IntKind.u32.wrap (aD .shr .u64 (IntKind.u64.wrap x) 32))=true
   rw[hp (by omega)];simp only[decide_eq_true_eq];exact(hw _ (by omega) (by omega)).2.2.1
  ·show decide (IntKind.u32.wrap (aD .shr .u64 (IntKind.u64.wrap x) 32) < 4294967296)=true
   rw[hp (by omega)];simp only[decide_eq_true_eq];exact(hw _ (by omega) (by omega)).2.2.2
  ·refine hk _ _ (bE.pure rfl fun ρ=>?_)
   show Value.agg (aI ρ [.W (tld (decide (x < 0)) (aA.setD (aA.setD Dg.zero 0 (IntKind.u32.wrap (aD .and .u64 (IntKind.u64.wrap x) 4294967295))) 1 (IntKind.u32.wrap (aD .shr .u64 (IntKind.u64.wrap x) 32))))]).toArray= .agg (aI ρ [.W (tld (decide (x < 0)) (bX x.natAbs))]).toArray
   rw[hp (by omega),atN x (by omega) (by omega),show x.toNat=x.natAbs from by omega]
 ·cases hg
def tC3 (A:Alg) (S:SW):List (Nat×bU):=(154,aC [.v] A (Ba A S)) :: (184,aC [.v] A (PY S)) :: (137,aC [.v] A (C2 A S)) :: (193,aC [.v, .v] A (yB S)) :: ((tC2 A S))
theorem Lq:COK Tryz.prog (aN (tC3 aA aV)):=aB Kt (aB N5 (aB Gi (aB KZ (Ho))))
def vY (S:SW):List CV→List Blk→Option LR
 | [.g [.W w]],[]=>some ⟨[], .c (.s (.int .i64 (S.bits w))),[]⟩
 | _,_=>none
def P0 (S:SW):List CV→List Blk→Option LR
 | [],[]=>some ⟨[], .c (.g [.W (S.from64 1)]),[]⟩
 | _,_=>none
def atG (S:SW):List CV→List Blk→Option LR
 | [.g [.W w]],[]=>some ⟨[], .c (.s (.bool (S.one w))),[]⟩
 | _,_=>none
theorem Ki:aJ Tryz.prog 181 (aC [.v] aA (vY aV)):=by
 refine aH (un:=⟨false,none⟩) tok Lq aL (fn:=Tryz.f181) ?_
 intro w Wr args bs r hg ho hWr A L k hA hL hk
 obtain⟨S,hS⟩: ∃ S,S=aV:=⟨_,rfl⟩
 rw[← hS, ← hA]
 unfold vY at hg
 split at hg
 ·simp only[Option.some.injEq] at hg
  subst hg
  rename_i x
  cbv
  repeat' first | (with_reducible intro hb;cbv) | with_reducible refine And.intro ?_ ?_
  all_goals subst hS hA
  ·have hb:((bA x.d:Int) == 0)=true:=hb
   simp only[beq_iff_eq] at hb
   have:=j8 x.d
   have h0:x.d.n=0:=by omega
   refine hk _ _ (bE.pure rfl fun ρ=>?_)
   show Value.int .i64 0= .int .i64 ((bP x.d.n:Nat):Int)
   rw[h0];rfl
  all_goals have hb:((bA x.d:Int) == 0)=false:=hb
  all_goals simp only[beq_eq_false_iff_ne,ne_eq] at hb
  all_goals have h0:x.d.n≠0:=by have:=j8 x.d;omega
  all_goals obtain⟨h1,h2,h3,h4⟩:=i9 x.d h0
  all_goals have hx:aD .sub .i64 (bA x.d:Int) 1=((bA x.d - 1:Nat):Int):=by simp only[aD,IntKind.wrap_i64];omega
  ·show decide (0≤aD .sub .i64 (bA x.d:Int) 1)=true
   rw[hx];simp only[decide_eq_true_eq];omega
  ·show decide (aD .sub .i64 (bA x.d:Int) 1 < Int.ofNat 32)=true
   rw[hx];simp only[decide_eq_true_eq,bM];omega
  ·show decide (0≤aD .sub .i64 (bA x.d:Int) 1)=true
   rw[hx];simp only[decide_eq_true_eq];omega
  ·show decide (aD .sub .i64 (bA x.d:Int) 1 < 32)=true
   rw[hx];simp only[decide_eq_true_eq];omega
  ·show decide (0≤((x.d.dig (aD .sub .i64 (bA x.d:Int) 1).toNat:Nat):Int))=true
   simp only[decide_eq_true_eq];omega
  ·show decide (((x.d.dig (aD .sub .i64 (bA x.d:Int) 1).toNat:Nat):Int) < 4294967296)=true
   have:=fQ x.d (aD .sub .i64 (bA x.d:Int) 1).toNat
   simp only[decide_eq_true_eq];omega
  ·refine hk _ _ (bE.pure rfl fun ρ=>?_)
   show Value.int .i64 (aD .add .i64 (aD .mul .i64 (aD .sub .i64 (bA x.d:Int) 1) 32) ((bP (((x.d.dig (aD .sub .i64 (bA x.d:Int) 1).toNat:Nat):Int)).toNat:Nat):Int))= .int .i64 ((bP x.d.n:Nat):Int)
   rw[hx,Cf x.d h0,Int.toNat_natCast,Int.toNat_natCast]
   have:=iE (x.d.dig (bA x.d - 1)) 32 (fQ _ _)
   congr 1
   simp only[aD,IntKind.wrap_i64]
   omega
 ·cases hg
theorem HY:aJ Tryz.prog 155 (aC [] aA (P0 aV)):=by
 refine aH (un:=⟨false,none⟩) tok Lq aL (fn:=Tryz.f155) ?_
 intro w Wr args bs r hg ho hWr A L k hA hL hk
 obtain⟨S,hS⟩: ∃ S,S=aV:=⟨_,rfl⟩
 rw[← hS, ← hA]
 unfold P0 at hg
 split at hg
 ·simp only[Option.some.injEq] at hg
  subst hg
  cbv
  repeat' first | (with_reducible intro hb;cbv) | with_reducible refine And.intro ?_ ?_
  ·subst hA;decide
  ·subst hA;decide
  refine hk _ _ (bE.pure rfl fun ρ=>?_)
  subst hS
  rfl
 ·cases hg
def tC4 (A:Alg) (S:SW):List (Nat×bU):=(155,aC [] A (P0 S)) :: tC3 A S
theorem Ov:COK Tryz.prog (aN (tC4 aA aV)):=aB HY Lq
theorem Gh:aJ Tryz.prog 186 (aC [.v] aA (atG aV)):=by
 refine aH (un:=⟨false,none⟩) tok Ov aL (fn:=Tryz.f186) ?_
 intro w Wr args bs r hg ho hWr A L k hA hL hk
 obtain⟨S,hS⟩: ∃ S,S=aV:=⟨_,rfl⟩
 rw[← hS, ← hA]
 unfold atG at hg
 split at hg
 ·simp only[Option.some.injEq] at hg
  subst hg
  rename_i x
  cbv
  refine hk _ _ (bE.pure rfl fun ρ=>?_)
  subst hS hA
  show Value.bool (sgn (aK x) (aK (aV.from64 1)) == 0)= .bool (decide (aK x=1))
  have h1:aK (aV.from64 1)=1:=by
   show((bX 1).n:Int)=1
   rw[zZ _ (by omega)];rfl
  rw[h1]
  congr 1
  unfold sgn
  rw[Bool.eq_iff_iff]
  simp only[beq_iff_eq,decide_eq_true_eq]
  split
  ·omega
  ·split <;> omega
 ·cases hg
def tC5 (A:Alg) (S:SW):List (Nat×bU):=(181,aC [.v] A (vY S)) :: (186,aC [.v] A (atG S)) :: tC4 A S
theorem Ow:COK Tryz.prog (aN (tC5 aA aV)):=aB Ki (aB Gh Ov)
end Go.Eng
