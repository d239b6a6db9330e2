
import Derived.Test.YtbfknjpggfkgjaaGreatEngAI
import Derived.Test.YtbfknjpggfkgjaaGreatSpecP3
import Derived.Test.YtbfknjpggfkgjaaGreatSpecP4
set_option linter.all false
set_option exponentiation.threshold 3000
namespace Go.Eng
section
variable {α:Type} [DecidableEq α]
def aiF (a:List α) (x:α):List α:=if a.getLast?=some x then a else a++[x]
def amJ (d:α) (l:List α):Nat→List α
 | 0=>[]
 | n+1=>aiF (amJ d l n) (l.getD n d)
theorem oP (d:α) (l:List α) (n:Nat):(amJ d l (n+1)).getLast?=some (l.getD n d):=by
 unfold amJ aiF
 split
 ·assumption
 ·rw[List.getLast?_append];rfl
theorem aiM (d:α) (l:List α) (x:α): ∀ n,x∈amJ d l n↔ ∃ j,j < n∧l.getD j d=x
 | 0=>by simp[amJ]
 | n+1=>by
  have ih:=aiM d l x n
  have hx:x∈amJ d l (n+1)↔x∈amJ d l n∨x=l.getD n d:=by
   show x∈aiF _ _↔_
   unfold aiF
   split
   ·rename_i h
    refine⟨.inl,fun h'=>h'.elim id fun e=>?_⟩
    rw[e];exact List.mem_of_getLast? h
   ·rw[List.mem_append,List.mem_singleton]
  rw[hx,ih]
  constructor
  ·rintro(⟨j,h1,h2⟩ | e)
   ·exact⟨j,by omega,h2⟩
   ·exact⟨n,by omega,e.symm⟩
  ·rintro⟨j,h1,h2⟩
   by_cases h:j=n
   ·subst h;exact .inr h2.symm
   ·exact .inl ⟨j,by omega,h2⟩
theorem aiK (d:α) (l:List α): ∀ n,n≤l.length→(∀ j,0 < j→j < n→l.getD j d≠l.getD (j - 1) d)→amJ d l n=l.take n
 | 0,_,_=>by simp[amJ]
 | n+1,hn,h=>by
  have ih:=aiK d l n (by omega) fun j h0 h1=>h j h0 (by omega)
  have hx:l.take (n+1)=l.take n++[l.getD n d]:=by
   rw[List.take_succ_eq_append_getElem (by omega),List.getD_eq_getElem?_getD,List.getElem?_eq_getElem (by omega)]
   rfl
  show aiF _ _=_
  rw[hx, ← ih]
  unfold aiF
  rw[if_neg]
  cases n with
  | zero=>simp[amJ]
  | succ m=>
   rw[oP]
   intro e
   exact h (m+1) (by omega) (by omega) (Option.some.inj e).symm
variable {lt:α→α→Prop}
theorem ai6 (d:α) (l:List α) (tot: ∀ x y,x∈l→y∈l→ ¬ lt y x→x≠y→lt x y) (tr: ∀ x y z, ¬ lt x y→lt x z→lt y z) (hs: ∀ i j,i < j→j < l.length→ ¬ lt (l.getD j d) (l.getD i d)) :
  ∀ n,n≤l.length→(amJ d l n).Pairwise lt
 | 0,_=>by simp[amJ]
 | n+1,hn=>by
  have ih:=ai6 d l tot tr hs n (by omega)
  have hm: ∀ j,j < l.length→l.getD j d∈l:=fun j hj=>by rw[List.getD_eq_getElem?_getD,List.getElem?_eq_getElem hj];exact List.getElem_mem _
  show(aiF _ _).Pairwise lt
  unfold aiF
  split
  ·exact ih
  ·rename_i h
   rw[List.pairwise_append]
   refine⟨ih,by simp,fun y hy x hx=>?_⟩
   have hx:=List.mem_singleton.1 hx
   subst hx
   obtain⟨j,hj,rfl⟩:=(aiM d l y n).1 hy
   cases n with
   | zero=>omega
   | succ m=>
    rw[oP] at h
    have hz:=tot (l.getD m d) (l.getD (m+1) d) (hm m (by omega)) (hm (m+1) (by omega)) (hs m (m+1) (by omega) (by omega)) fun e=>h (by rw[e])
    by_cases e:j=m
    ·subst e;exact hz
    ·exact tr _ _ _ (hs j m (by omega) (by omega)) hz
end
theorem aiV {α:Type} {lt:α→α→Prop} (irr: ∀ x, ¬ lt x x) (tr: ∀ x y z,lt x y→lt y z→lt x z): ∀ {A B:List α},A.Pairwise lt→B.Pairwise lt→(∀ x,x∈A↔x∈B)→A=B
 | [],[],_,_,_=>rfl
 | [],b :: B,_,_,h=>absurd ((h b).2 (List.mem_cons_self ..)) (by simp)
 | a :: A,[],_,_,h=>absurd ((h a).1 (List.mem_cons_self ..)) (by simp)
 | a :: A,b :: B,hA,hB,h=>by
  obtain⟨a1,a2⟩:=List.pairwise_cons.1 hA
  obtain⟨b1,b2⟩:=List.pairwise_cons.1 hB
  have e:a=b:=by
   rcases List.mem_cons.1 ((h a).1 (List.mem_cons_self ..)) with e | h1
   ·exact e
   ·rcases List.mem_cons.1 ((h b).2 (List.mem_cons_self ..)) with e | h2
    ·exact e.symm
    ·exact absurd (tr _ _ _ (a1 b h2) (b1 a h1)) (irr a)
  subst e
  rw[aiV irr tr a2 b2 fun x=>⟨fun hx=>?_,fun hx=>?_⟩]
  ·rcases List.mem_cons.1 ((h x).1 (List.mem_cons_of_mem _ hx)) with e | h1
   ·subst e;exact absurd (a1 x hx) (irr x)
   ·exact h1
  ·rcases List.mem_cons.1 ((h x).2 (List.mem_cons_of_mem _ hx)) with e | h1
   ·subst e;exact absurd (b1 x hx) (irr x)
   ·exact h1
theorem akJ {l:List Pt} (hl:Z4 l) {p:Pt} (hp:dJ p=true) (x:Pt):x∈ad5 l p↔x∈l∨x=p:=by
 unfold ad5
 split
 ·rename_i h
  refine⟨.inl,fun h'=>h'.elim id fun e=>?_⟩
  unfold i8 at h
  simp only[Bool.and_eq_true,decide_eq_true_eq] at h
  obtain⟨h1,h2⟩:=h
  have h0:=(UV l p).1
  have hm:pC l (v5 l p)∈l:=by
   have:((v5 l p).toNat:Int)=v5 l p:=Int.toNat_of_nonneg h0
   have hlt:(v5 l p).toNat < l.length:=by unfold aY at h1;omega
   rw[← this,f9 hlt]
   exact List.getElem_mem _
  have ho:=hl.mem hm
  rw[VJ ho hp] at h2
  rw[e, ← (D3 (e9 ho) (e9 hp)).1 h2]
  exact hm
 ·rw[List.mem_append,List.mem_append,List.mem_singleton]
  have:=List.mem_append (a:=x) (s:=l.take (v5 l p).toNat) (t:=l.drop (v5 l p).toNat)
  rw[List.take_append_drop] at this
  rw[this]
  constructor
  ·rintro((h | h) | h)
   ·exact .inl (.inl h)
   ·exact .inr h
   ·exact .inl (.inr h)
  ·rintro((h | h) | h)
   ·exact .inl (.inl h)
   ·exact .inr h
   ·exact .inl (.inr h)
theorem aiO (l:List Pt) (x:Pt): ∀ k,k≤l.length→(x∈ac3 l k↔x∈l.take k∧dJ x=true)
 | 0,_=>by simp[ac3]
 | k+1,hk=>by
  have ih:=aiO l x k (by omega)
  have hg:pC l k=l[k]:=f9 (by omega)
  rw[List.take_succ_eq_append_getElem (by omega),List.mem_append,List.mem_singleton, ← hg]
  show x∈(if dJ (pC l k) then ad5 (ac3 l k) (pC l k) else ac3 l k)↔_
  split
  ·rename_i ho
   rw[akJ (Vi l k) ho,ih]
   constructor
   ·rintro(h | h)
    ·exact⟨.inl h.1,h.2⟩
    ·exact⟨.inr h,by rw[h];exact ho⟩
   ·rintro⟨h | h,h'⟩
    ·exact .inl ⟨h,h'⟩
    ·exact .inr h
  ·rename_i ho
   rw[ih]
   constructor
   ·rintro h
    exact⟨.inl h.1,h.2⟩
   ·rintro⟨h | h,h'⟩
    ·exact⟨h,h'⟩
    ·rw[h] at h';exact absurd h' ho
theorem aiE (x:Pt): ¬ iQ x x < 0:=fun h=>by
 rcases ac2.1 h with h | h
 ·exact absurd h (Rat.lt_irrefl)
 ·exact absurd h.2 (Rat.lt_irrefl)
def zPt:Pt:=⟨⟨⟨false,aA.zD⟩,⟨false,aA.zD⟩⟩,⟨⟨false,aA.zD⟩,⟨false,aA.zD⟩⟩⟩
abbrev PcR:=r6 [.int .i64, .int .i64, .int .i64, .P, .P, .P]
def pcD:PcR:=(0,0,0,zPt,zPt,zPt,())
def ai9 (l:List PcR):Nat→List Pt
 | 0=>[]
 | k+1=>ai9 l k++ZX (l.getD k pcD).2.2.2.1 (l.getD k pcD).2.2.2.2.1 (l.getD k pcD).2.2.2.2.2.1
theorem aiC (l:List PcR): ∀ k,(ai9 l k).length≤4*k
 | 0=>Nat.le_refl _
 | k+1=>by
  have:=aiC l k
  have h: ∀ u v w,(ZX u v w).length≤4:=fun u v w=>by
   unfold ZX afA
   simp only[List.length_append]
   repeat' split
   all_goals simp
  have:=h (l.getD k pcD).2.2.2.1 (l.getD k pcD).2.2.2.2.1 (l.getD k pcD).2.2.2.2.2.1
  unfold ai9
  rw[List.length_append];omega
abbrev T3:=r6 [.P, .P, .P]
abbrev I3:=Int×Int×Int
def l4 (m:Pt) (r:List Pt):Nat→List T3
 | 0=>[]
 | k+1=>l4 m r k++[(m,pC r k,pC r (((k:Int)+1) % aY r),())]
def aoM (u v w:Pt) (r:List Pt):List T3:=if r.length < 3 then[] else if r.length=3 then[(pC r 0,pC r 1,pC r 2,())] else l4 (bD.mid (ZX u v w)) r r.length
def aqF (n:List Pt) (l:List PcR) (k:Nat):List T3:=aoM (l.getD k pcD).2.2.2.1 (l.getD k pcD).2.2.2.2.1 (l.getD k pcD).2.2.2.2.2.1 (f7.rim (l.getD k pcD).2.2.2.1 (l.getD k pcD).2.2.2.2.1 (l.getD k pcD).2.2.2.2.2.1 n)
def am3 (n:List Pt) (l:List PcR):Nat→List T3
 | 0=>[]
 | k+1=>am3 n l k++aqF n l k
def anJ (l:List T3):List Pt:=l.flatMap fun t=>[t.1,t.2.1,t.2.2.1]
def anB (a b c:Int):I3:=if min (min a b) c=a then(a,b,c) else if min (min a b) c=b then(b,c,a) else(c,a,b)
def ap5 (p:List Pt) (t:T3):I3:=anB (f7.find p t.1) (f7.find p t.2.1) (f7.find p t.2.2.1)
def ap6 (a b:Int):Int:=if a < b then -1 else if b < a then 1 else 0
def cmp3 (a b:I3):Int:=if ap6 a.1 b.1≠0 then ap6 a.1 b.1 else if ap6 a.2.1 b.2.1≠0 then ap6 a.2.1 b.2.1 else ap6 a.2.2 b.2.2
structure SNd where
 mid:Pt→Pt→Pt→Pt
 midOK:Pt→Pt→Pt→Bool
 around:Pt→List Pt→List T3
 fan:Pt→Pt→Pt→List Pt→List T3
 all:List Pt→List PcR→List T3
 pts:List T3→List Pt
 turned:Int→Int→Int→I3
 tris:List Pt→List T3→List I3
 cmp3:I3→I3→Int
 srt3:List I3→List I3
 cors:List PcR→List Pt
 srt:List Pt→List Pt
 flt:List Pt→List Pt
 cmpt:List Pt→List Pt
def dT:SNd where
 mid u v w:=bD.mid (ZX u v w)
 midOK u v w:=bD.midOK (ZX u v w)
 around m r:=l4 m r r.length
 fan:=aoM
 all n l:=am3 n l l.length
 pts:=anJ
 turned:=anB
 tris p l:=l.map (ap5 p)
 cmp3:=cmp3
 srt3:=ajM cmp3
 cors l:=ai9 l l.length
 srt:=ajM bD.cmp
 flt l:=XE dJ l l.length
 cmpt l:=amJ zPt l l.length
theorem akM {l:List Pt} (h: ∀ x,x∈l→dJ x=true):ajM bD.cmp l=l.mergeSort fun x y=> !decide (iQ y x < 0):=by
 unfold ajM
 have:=List.map_mergeSort (f:=id) (l:=l) (r:=fun x y=> !decide (bD.cmp y x < 0)) (s:=fun x y=> !decide (iQ y x < 0)) fun a ha b hb=>by
  show(!decide (bD.cmp b a < 0))= !decide (iQ b a < 0)
  rw[VJ (h b hb) (h a ha)]
 rwa [List.map_id,List.map_id] at this
theorem ai1 {x y z:Pt} (h1: ¬ iQ y x < 0) (h2: ¬ iQ z y < 0): ¬ iQ z x < 0:=fun h=>h1 (aeX h2 h)
theorem akV (l:List Pt):dT.cmpt (dT.srt (dT.flt l))=f7.srt l:=by
 have hf:dT.flt l=l.filter dJ:=ab9 dJ l
 have hok: ∀ x,x∈l.filter dJ→dJ x=true:=fun x hx=>(List.mem_filter.1 hx).2
 have hs:dT.srt (dT.flt l)=(l.filter dJ).mergeSort fun x y=> !decide (iQ y x < 0):=by rw[hf];exact akM hok
 have hsm: ∀ x,x∈dT.srt (dT.flt l)↔x∈l.filter dJ:=fun x=>by rw[hs];exact List.mem_mergeSort
 have hsp:(dT.srt (dT.flt l)).Pairwise fun a b=> ¬ iQ b a < 0:=by
  rw[hs]
  have:=List.pairwise_mergeSort (le:=fun x y=> !decide (iQ y x < 0)) (fun x y z h1 h2=>by simp only[Bool.not_eq_true',decide_eq_false_iff_not] at h1 h2 ⊢;exact ai1 h1 h2)
   (fun x y=>by
     simp only[Bool.or_eq_true,Bool.not_eq_true',decide_eq_false_iff_not]
     by_cases h:iQ y x < 0
     ·exact .inr fun h'=>aiE x (tV h' h)
     ·exact .inl h) (l.filter dJ)
  exact this.imp fun h=>by simpa using h
 refine aiV (lt:=fun a b=>iQ a b < 0) aiE (fun _ _ _=>tV) ?_ (VH.1 (Vi l l.length)).2 fun x=>?_
 ·refine ai6 (lt:=fun a b=>iQ a b < 0) zPt _ (fun x y hx hy h hne=>?_) (fun x y z h1 h2=>aeX h1 h2) (fun i j hij hj=>?_) _ (Nat.le_refl _)
  ·have ox:=hok x ((hsm x).1 hx)
   have oy:=hok y ((hsm y).1 hy)
   rcases jE x y with ⟨_,h1,_⟩ | ⟨h1,h2,h3,_⟩ | h1
   ·omega
   ·exact absurd ((D3 (e9 ox) (e9 oy)).1 h3) hne
   ·omega
  ·rw[List.getD_eq_getElem?_getD,List.getElem?_eq_getElem hj,List.getD_eq_getElem?_getD,List.getElem?_eq_getElem (by omega)]
   exact List.pairwise_iff_getElem.1 hsp i j (by omega) hj hij
 ·show x∈amJ zPt _ _↔x∈ac3 l l.length
  rw[aiO l x l.length (Nat.le_refl _),List.take_length,aiM]
  constructor
  ·rintro⟨j,hj,rfl⟩
   have hm:(dT.srt (dT.flt l)).getD j zPt∈dT.srt (dT.flt l):=by rw[List.getD_eq_getElem?_getD,List.getElem?_eq_getElem hj];exact List.getElem_mem _
   exact List.mem_filter.1 ((hsm _).1 hm)
  ·intro h
   obtain⟨j,hj,e⟩:=List.getElem_of_mem ((hsm x).2 (List.mem_filter.2 h))
   exact⟨j,hj,by rw[List.getD_eq_getElem?_getD,List.getElem?_eq_getElem hj];exact e⟩
theorem ak9:Go.Sort.SWO (Go.Proofs.ltOf fun x y: {x:Pt // dJ x=true} =>bD.cmp x.1 y.1):=by
 have e: ∀ x y: {x:Pt // dJ x=true},Go.Proofs.ltOf (fun x y: {x:Pt // dJ x=true} =>bD.cmp x.1 y.1) x y=decide (iQ x.1 y.1 < 0):=fun x y=>by
  show decide (bD.cmp x.1 y.1 < 0)=_;rw[VJ x.2 y.2]
 refine⟨fun x=>?_,fun x y z=>?_,fun x y z=>?_⟩
 ·rw[e];exact decide_eq_false (aiE _)
 ·rw[e,e,e];simp only[decide_eq_true_eq];exact tV
 ·rw[e,e,e];simp only[decide_eq_false_iff_not];exact fun h1 h2=>ai1 h2 h1
theorem alA: ∀ x y:Pt,dJ x=true→dJ y=true→ ¬ bD.cmp x y < 0→ ¬ bD.cmp y x < 0→x=y:=fun x y hx hy h1 h2=>by
 rw[VJ hx hy] at h1
 rw[VJ hy hx] at h2
 rcases jE x y with ⟨_,h3,_⟩ | ⟨_,_,h3,_⟩ | h3
 ·omega
 ·exact(D3 (e9 hx) (e9 hy)).1 h3
 ·omega
end Go.Eng
