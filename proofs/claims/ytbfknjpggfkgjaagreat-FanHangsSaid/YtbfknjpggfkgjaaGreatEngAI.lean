
import Derived.Test.YtbfknjpggfkgjaaGreatEngAF
import Derived.Shelf.SlSortCmp.NoneTotal
set_option linter.all false
set_option exponentiation.threshold 3000
namespace Go.Eng
open Go.Proofs Go.Shelf Go.Sort
theorem flat_get {α:Type} [Inhabited α] (enc:α→List Value) (k:Nat) (hk: ∀ x,(enc x).length=k): ∀ (d:List α) (t:Nat),t < d.length*k→(d.flatMap enc)[t]? =some ((enc d[t / k]!)[t % k]!)
 | [],t,h=>by simp at h
 | x :: r,t,h=>by
  have k0:0 < k:=by
   rcases Nat.eq_zero_or_pos k with e | e
   ·subst e;simp at h
   ·exact e
  rw[List.flatMap_cons,List.getElem?_append]
  by_cases ht:t < k
  ·rw[if_pos (by rw[hk];exact ht),Nat.div_eq_of_lt ht,Nat.mod_eq_of_lt ht]
   have:t < (enc x).length:=by rw[hk];exact ht
   simp[this]
  ·rw[if_neg (by rw[hk];exact ht)]
   have h2:t - k < r.length*k:=by rw[List.length_cons,Nat.add_mul,Nat.one_mul] at h;omega
   have e:=flat_get enc k hk r (t - k) h2
   have e1:t / k=(t - k) / k+1:=by
    have h5:=Nat.add_div_right (t - k) k0
    rw[show t - k+k=t from by omega] at h5
    exact h5
   have e2:t % k=(t - k) % k:=by
    conv=>lhs;rw[show t=(t - k)+k from by omega,Nat.add_mod_right]
   rw[hk,e,e1,e2]
   simp
theorem flat_len {α:Type} (enc:α→List Value) (k:Nat) (hk: ∀ x,(enc x).length=k): ∀ d:List α,(d.flatMap enc).length=d.length*k
 | []=>by simp
 | x :: r=>by rw[List.flatMap_cons,List.length_append,hk,flat_len enc k hk r,List.length_cons,Nat.add_mul];omega
theorem aiG {α:Type} [Inhabited α] (enc:α→List Value) (k:Nat) (hk: ∀ x,(enc x).length=k) (d:List α):flatK enc k d.toArray=(d.flatMap enc).toArray:=by
 refine ext_get! (by rw[size_flatK];simp only[List.size_toArray];rw[flat_len enc k hk]) fun t ht=>?_
 rw[size_flatK] at ht
 rw[get_flatK _ _ _ _ ht]
 have e:=flat_get enc k hk d t (by simpa using ht)
 rw[show(d.flatMap enc).toArray[t]! =((d.flatMap enc)[t]?).getD default from by simp[List.getElem!_eq_getElem?_getD],e,List.getElem!_toArray]
 rfl
theorem aiY {w:World} {b o:Nat} {cs:List Value} :Holds id w b o cs.toArray↔w.rangeAt b o cs∧ ∀ j,j < cs.length→w.frozen? ⟨b,o+j,none⟩=false:=by
 constructor
 ·intro h
  refine⟨fun j v hv=>?_,fun j hj=>(h j (by simpa using hj)).2⟩
  have hj:=(List.getElem?_eq_some_iff.1 hv).1
  have e:=(h j (by simpa using hj)).1
  rw[e]
  simp only[List.getElem!_toArray,id]
  rw[List.getElem!_eq_getElem?_getD,hv]
  rfl
 ·rintro⟨h1,h2⟩ j hj
  have hj:j < cs.length:=by simpa using hj
  refine⟨?_,h2 j hj⟩
  rw[h1 j _ (List.getElem?_eq_getElem hj)]
  simp only[List.getElem!_toArray,id]
  rw[List.getElem!_eq_getElem?_getD,List.getElem?_eq_getElem hj]
  rfl
def aiP (k:RK) (x:k.ty):List Value:=aI (fun _=>undef) (k.at x)
theorem ajE (k:RK) (x:k.ty):(aiP k x).length=k.esz:=by
 unfold aiP
 rw[flats_length,RK.at_sizes]
theorem ajF (k:RK) (x:k.ty): ∀ v,v∈aiP k x→v.oneCell'=true:=fun v hv=>by
 unfold aiP at hv
 rw[k.at_flats x _ vC] at hv
 exact uX (ρ:=vC) (fun _=>rfl) (k.at_noUn x) v hv
theorem akI {w w':World} (h:Low w.heap.size w w'): ∃ q os,w'=grow (w.drewN q) os:=by
 refine⟨w'.drawn - w.drawn,w'.heap.extract w.heap.size w'.heap.size,?_⟩
 have hh:w'.heap=w.heap++w'.heap.extract w.heap.size w'.heap.size:=by
  apply Array.ext_getElem?
  intro i
  rw[Array.getElem?_append]
  split
  ·rename_i hi;exact h.block i hi
  ·rename_i hi
   rw[Array.getElem?_extract]
   have:w.heap.size+(i - w.heap.size)=i:=by omega
   rw[this]
   split
   ·rfl
   ·rename_i h2
    exact Array.getElem?_eq_none (by have:=h.size;omega)
 have h1:=h.os;have h2:=h.tape;have h3:=h.output;have h4:=h.drawn
 obtain⟨hp,tp,dr,os,ou⟩:=w'
 obtain⟨hp0,tp0,dr0,os0,ou0⟩:=w
 simp only at hh h1 h2 h3 h4
 show(⟨hp,tp,dr,os,ou⟩:World)=(⟨hp0++_,tp0,dr0+(dr - dr0),os0,ou0⟩:World)
 rw[← hh,h1,h2,h3,show dr0+(dr - dr0)=dr from by omega]
def ajM {α:Type} (cf:α→α→Int) (l:List α):List α:=l.mergeSort fun x y=> !decide (cf y x < 0)
def aiW (g:Nat) (srt:Blk→Option (List Bool×Blk)):bU:=fun _ xs h=>match xs with
 | [.s .nils, .s (.fn g' [])]=>if g'=g then some ⟨[], .t [],[],[]⟩ else none
 | [.s (.hs id), .s (.fn g' [])]=>if g'=g then match aN h id with
  | some b=>match srt b with
   | some (ob,b')=>some ⟨ob, .t [],[],[(id,b')]⟩
   | none=>none
  | none=>none else none
 | _=>none
section
variable {P:Program} {R:Ren}
theorem ajO {k:RK} {ok:k.ty→Bool} {cf:k.ty→k.ty→Int} {g:Nat} {sem:bU} (hg:aJ P g sem)
  (hsem: ∀ x y,ok x=true→ok y=true→ ∃ ob,sem 0 [.g (k.at x), .g (k.at y)] []=some ⟨ob, .c (.s (.int .i64 (cf x y))),[],[]⟩∧ ∀ b,b∈ob→b=true) (b o n:Nat) (w:World) [Inhabited {x:k.ty // ok x=true}] :
  CmpLays P g #[] (fun x: {x:k.ty // ok x=true} =>aiP k x.1) k.esz (fun x y=>cf x.1 y.1) b o n w:=fun m os dk hs x y=>by
 obtain⟨ob,h1,h2⟩:=hsem x.1 y.1 x.2 y.2
 have h:=hg.calls NA 0 [.g (k.at x.1), .g (k.at y.1)] [] _ (fun i hi=>hi.elim) h1 h2 _ PF vC _ (HS.init (sortWorldK (fun x: {x:k.ty // ok x=true} =>aiP k x.1) k.esz w b o m dk os)) (fun v hv=>by
  simp only[List.mem_cons,List.not_mem_nil,or_false] at hv
  rcases hv with rfl | rfl
  ·exact fun ρ' _=>by show Value.agg _=Value.agg _;rw[RK.at_flats k x.1 ρ' vC]
  ·exact fun ρ' _=>by show Value.agg _=Value.agg _;rw[RK.at_flats k y.1 ρ' vC])
 have e:(([.g (k.at x.1), .g (k.at y.1)]:List CV).map (CV.den vC)).toArray= #[.agg (aiP k x.1).toArray, .agg (aiP k y.1).toArray]++ #[]:=by
  simp only[List.map_cons,List.map_nil,CV.den,aiP]
  rw[RK.at_flats k x.1 vC (fun _=>undef),RK.at_flats k y.1 vC (fun _=>undef)]
  rfl
 rw[e] at h
 refine h.mono ?_
 rintro e w' ⟨v,rfl,ρ',ha,rfl,hst,hs',hb, -⟩
 exact⟨rfl,akI (hb.below HC)⟩
theorem ai2 (L:SlLaysF0.n6 P R) (k:RK) (aE: ∀ w,(isAgg (R.t 24)).run P w= .ok true w) (zE: ∀ w,(Go.sizeOf (R.t 24)).run P w= .ok k.esz w)
  (ok:k.ty→Bool) (x0:k.ty) (h0:ok x0=true) (cf:k.ty→k.ty→Int) (hO:SWO (ltOf fun x y: {x:k.ty // ok x=true} =>cf x.1 y.1))
  (hT: ∀ x y,ok x=true→ok y=true→ ¬ cf x y < 0→ ¬ cf y x < 0→x=y) (g:Nat) (sem:bU) (hg:aJ P g sem)
  (hsem: ∀ x y,ok x=true→ok y=true→ ∃ ob,sem 0 [.g (k.at x), .g (k.at y)] []=some ⟨ob, .c (.s (.int .i64 (cf x y))),[],[]⟩∧ ∀ b,b∈ob→b=true)
  (srt:Blk→Option (List Bool×Blk))
  (hsrt: ∀ b ob b',srt b=some (ob,b')→ ∃ l,b= .vec true k l∧b'= .vec true k (ajM cf l)∧((∀ x,x∈ob→x=true)→(∀ x,x∈l→ok x=true)∧l.length < 4611686018427387904)) :
  aJ P (R.f 6) (aiW g srt) where
 enters args w:=L.f6.enters rfl args w
 calls n m args h r hlt hr hob w0 Wr ρ w hs hargs:=by
  unfold aiW at hr
  split at hr
  ·rename_i g'
   split at hr
   ·rename_i e
    subst e
    simp only[Option.some.injEq] at hr
    subst hr
    have hc:=AnyF.slices_SortFunc_none L none 0 (.func (.func g') #[] #[]) w
    refine hc.mono ?_
    rintro e w' ⟨rfl,rfl⟩
    exact⟨_,rfl,ρ,bZ.refl _ _,rfl,fun _ _=>rfl,hs.addI0,But.of (Low.refl _ _),fun i x g1 g2=>by simp at g2;omega⟩
   ·cases hr
  ·rename_i id g'
   split at hr
   ·rename_i e
    subst e
    split at hr
    ·rename_i blk hblk
     split at hr
     ·rename_i ob b' hsr
      simp only[Option.some.injEq] at hr
      subst hr
      obtain⟨l,rfl,rfl,hobs⟩:=hsrt _ _ _ hsr
      obtain⟨hall,hlen⟩:=hobs hob
      have hok:=hs.ok id _ hblk
      have hni:=hok.1
      have hbok:=hok.2.1
      have fin: ∀ w',But (xB ρ [(id,Blk.vec true k (ajM cf l))]) w w'→(Blk.vec true k (ajM cf l)).ok w' (ρ id) ρ→Did w0 Wr ρ h n m w ⟨ob, .t [],[],[(id, .vec true k (ajM cf l))]⟩ (.tuple #[]) w':=fun w' hb hk=>
       ⟨ρ,bZ.refl _ _,rfl,fun _ _=>rfl,HS.afterN (new:=[]) hs hlt (by simp) hb (bZ.refl _ _) hs.one (fun i b hl=>by
        simp only[aN] at hl
        split at hl
        ·rename_i e
         have e:id=i:=by simpa using e
         subst e
         cases hl
         exact⟨_,hblk,rfl,hk,trivial⟩
        ·cases hl) (fun q b hq=>by simp at hq) (fun q b x hq=>by simp at hq) (fun q q' b b' hq=>by simp at hq),hb,fun i x g1 g2=>by simp at g2;omega⟩
      obtain⟨base,cap,hv,hcap,hbase⟩:=hbok
      cases base with
      | none=>
       obtain⟨rfl,rfl⟩:=hbase
       have hc:=AnyF.slices_SortFunc_none L none 0 (.func (.func g') #[] #[]) w
       have ea:(([.s (.hs id), .s (.fn g' [])]:List CV).map (CV.den ρ)).toArray= #[.slice none 0 0, .func (.func g') #[] #[]]:=by
        simp only[List.map_cons,List.map_nil,CV.den,Sc.den,hv]
        rfl
       rw[ea]
       refine hc.mono ?_
       rintro e w' ⟨rfl,rfl⟩
       refine⟨_,rfl,fin _ (But.of (Low.refl _ _)) ?_⟩
       have:ajM cf ([]:List k.ty)=[]:=List.mergeSort_nil
       rw[this]
       exact⟨none,0,hv,Nat.le_refl _,rfl,rfl⟩
      | some a=>
       obtain⟨b,o,rfl,hb,hrange,hthere⟩:=hbase
       have hthere:=hthere rfl
       let E: {x:k.ty // ok x=true} →List Value:=fun x=>aiP k x.1
       let dl:List {x:k.ty // ok x=true} :=l.attachWith (fun x=>ok x=true) hall
       have hdl:dl.map Subtype.val=l:=List.attachWith_map_subtype_val ..
       have hll:dl.length=l.length:=by rw[← hdl,List.length_map]
       have hE: ∀ x,(E x).length=k.esz:=fun x=>ajE k x.1
       have hflat: ∀ d:List {x:k.ty // ok x=true},d.flatMap E=k.flat (d.map Subtype.val):=fun d=>by
        unfold RK.flat
        rw[List.flatMap_map]
        rfl
       letI:Inhabited {x:k.ty // ok x=true} :=⟨⟨x0,h0⟩⟩
       have hcells:k.esz*l.length≤k.esz*cap:=Nat.mul_le_mul_left _ hcap
       have hfl:(k.flat l).length=l.length*k.esz:=by
        rw[← hdl, ← hflat,flat_len E k.esz hE,List.length_map]
       have hH:HoldsK E k.esz w b o dl.toArray:=by
        unfold HoldsK
        rw[aiG E k.esz hE,hflat,hdl]
        exact aiY.2 ⟨hrange,fun j hj=>(hthere j (by rw[hfl,Nat.mul_comm] at hj;omega)).2⟩
       have hT': ∀ x y: {x:k.ty // ok x=true},(ltOf fun x y: {x:k.ty // ok x=true} =>cf x.1 y.1) x y=false→(ltOf fun x y: {x:k.ty // ok x=true} =>cf x.1 y.1) y x=false→x=y:=fun x y h1 h2=>
        Subtype.ext (hT x.1 y.1 x.2 y.2 (of_decide_eq_false h1) (of_decide_eq_false h2))
       have hc:=AnyQ.slices_SortFunc_total L k.esz aE zE E hE (fun x=>ajF k x.1) (fun x y=>cf x.1 y.1) hO g' #[] b o cap dl.toArray w (hg.enters) (ajO hg hsem b o dl.toArray.size w) hH hb (by simp only[List.size_toArray];rw[hll];exact hlen) hT'
       have ea:(([.s (.hs id), .s (.fn g' [])]:List CV).map (CV.den ρ)).toArray= #[.slice (some ⟨b,o,none⟩) dl.toArray.size cap, .func (.func g') #[] #[]]:=by
        simp only[List.map_cons,List.map_nil,CV.den,Sc.den,hv,List.size_toArray,hll]
       rw[ea]
       refine hc.mono ?_
       rintro e w' ⟨rfl,q,os,rfl⟩
       refine⟨_,rfl,fin _ ?_ ?_⟩
       ·refine⟨rfl,rfl,rfl,Nat.le_add_right _ _,?_,fun x hx hn=>?_⟩
        ·unfold sortWorldK putRowK;rw[size_grow,Go.Sort.size_putRow];exact Nat.le_add_right _ _
        ·have hxb:x≠b:=fun e=>hn ⟨id,_,List.mem_cons_self ..,by rw[hv,e];rfl⟩
         unfold sortWorldK putRowK
         rw[heap_grow_old _ _ (by rw[Go.Sort.size_putRow];exact hx)]
         unfold putRow mapBlock
         simp only[heap_ahead]
         rw[Array.getElem?_modify,if_neg (fun e=>hxb e.symm)]
       ·have hds:(dl.mergeSort fun x y=> !(ltOf fun x y: {x:k.ty // ok x=true} =>cf x.1 y.1) y x).map Subtype.val=ajM cf l:=by
         unfold ajM
         rw[← hdl]
         exact List.map_mergeSort fun _ _ _ _=>rfl
        have hsl:(ajM cf l).length=l.length:=List.length_mergeSort _
        have hs2:(dl.mergeSort fun x y=> !(ltOf fun x y: {x:k.ty // ok x=true} =>cf x.1 y.1) y x).toArray.size=dl.toArray.size:=by simp
        have hb2:b < (putRowK E k.esz (Sort.ahead w q) b o (dl.mergeSort fun x y=> !(ltOf fun x y: {x:k.ty // ok x=true} =>cf x.1 y.1) y x).toArray).heap.size:=by unfold putRowK;rw[Go.Sort.size_putRow];exact hb
        have hH2:=holdsK_grow E k.esz _ os b o _ hb2 (holdsK_putRowK E k.esz (Sort.ahead w q) b o _ (dl.mergeSort fun x y=> !(ltOf fun x y: {x:k.ty // ok x=true} =>cf x.1 y.1) y x).toArray (holdsK_ahead E k.esz w q b o _ hH) hs2)
        unfold HoldsK at hH2
        rw[aiG E k.esz hE,hflat,hds] at hH2
        refine⟨some ⟨b,o,none⟩,cap,by rw[hsl];exact hv,by rw[hsl];exact hcap,b,o,rfl,?_,(aiY.1 hH2).1,fun _ j hj=>?_⟩
        ·unfold sortWorldK;rw[size_grow];exact Nat.lt_of_lt_of_le hb2 (Nat.le_add_right _ _)
        ·have h1:=hthere j hj
         unfold sortWorldK
         rw[frozen?_grow _ _ _ hb2,cell?_grow _ _ _ hb2]
         unfold putRowK
         rw[frozen?_putRow]
         refine⟨?_,h1.2⟩
         by_cases hjl:j < (flatK E k.esz (dl.mergeSort fun x y=> !(ltOf fun x y: {x:k.ty // ok x=true} =>cf x.1 y.1) y x).toArray).size
         ·have h3:=hH2 j (by rw[← hds, ← hflat, ← aiG E k.esz hE];exact hjl)
          have h4:=h3.1
          unfold sortWorldK at h4
          rw[cell?_grow _ _ _ hb2] at h4
          unfold putRowK at h4
          rw[h4]
          rfl
         ·rw[cell?_putRow_other _ _ _ _ _ _ (.inr (.inr (Nat.add_le_add_left (Nat.le_of_not_lt hjl) o)))]
          exact h1.1
     ·cases hr
    ·cases hr
   ·cases hr
  ·cases hr
end
end Go.Eng
