
import Derived.Test.YtlonkgccgccieaaEngAX
import Derived.Test.YtlonkgccgccieaaEngW
import Derived.Deep.Slices
import Derived.Deep.Strs
set_option linter.all false
set_option exponentiation.threshold 3000
set_option maxRecDepth 100000
namespace Go.Eng
open Go.RowKit Go.WideShapes Go.ChangeShapes
section
variable {H:Type} {enc:TypeId×Value→H} {P:Program} {w w':World}
structure SlP (k:RK) (w:World) (v:Value) (l:List k.ty):Prop where
 ok:(Blk.vec false k l).ok w v vC
 one:v.oneCell'=true
theorem yO {b o:Nat} {c1 c2:List Value} (h1:w.rangeAt b o c1) (h2:w.rangeAt b (o+c1.length) c2):w.rangeAt b o (c1++c2):=fun q v hv=>by
 by_cases hq:q < c1.length
 ·rw[List.getElem?_append_left hq] at hv;exact h1 q v hv
 ·rw[List.getElem?_append_right (by omega)] at hv
  have:=h2 _ v hv
  rw[show o+c1.length+(q - c1.length)=o+q from by omega] at this
  exact this
theorem RK.flat_len (k:RK): ∀ l:List k.ty,(k.flat l).length=l.length*k.esz
 | []=>by simp[RK.flat]
 | x :: r=>by rw[RK.flat_cons,List.length_append,k.at_len,RK.flat_len k r,List.length_cons,Nat.add_mul];omega
theorem yN {r:Reach} {b0:Nat} {k:RK} {t e:TypeId} {ks:List CK} (ht:P.underlying t=some (.slice e)) (hk:kT P 20 e=some ks) (hz:P.cellsOf e=k.esz) {Q:k.ty→Prop} (hc: ∀ cs,dN ks cs→ ∃ x:k.ty,Q x∧aI vC (k.at x)=cs)
  {base:Nat} {sp:Nat→Bool} {held:Bool} {fuel:Nat} {v:Value} {x:DataW H×List MemPlace} (hval:Cell.okWide P w r b0 t v) (h:DataW.trod enc P w base sp held fuel t [v]=some x): ∃ l:List k.ty,SlP k w v l∧ ∀ x,x∈l→Q x:=by
 rcases Go.Deep.open_slice ht h with ⟨e1,_⟩ | ⟨a,len,cap,m,n,D,Pl,e1,hb,hl,hcap,hm,_,hx⟩
 ·simp only[List.cons.injEq,and_true] at e1
  subst e1
  exact⟨[],⟨⟨none,0,rfl,Nat.le_refl _,rfl,rfl⟩,rfl⟩,fun x hx=>by cases hx⟩
 ·simp only[List.cons.injEq,and_true] at e1
  subst e1
  unfold Cell.okWide at hval
  rw[ht] at hval
  simp only at hval
  unfold Cell.ok at hval
  rw[ht] at hval
  simp only at hval
  obtain⟨_,_,_,hspot,row,cells,hsh,_⟩:=hval
  obtain⟨b,o,spot⟩:=a
  simp only at hspot
  subst hspot
  have hlt:b < w.heap.size:=by
   rcases Nat.lt_or_ge b w.heap.size with h1 | h1
   ·exact h1
   ·simp[World.shape?,Array.getElem?_eq_none h1] at hsh
  have hlm:len≤m:=by rw[hm];split <;> omega
  have key: ∀ q,q≤len→ ∃ l:List k.ty,l.length=q∧(∀ x,x∈l→Q x)∧w.rangeAt b o (k.flat l):=fun q=>by
   induction q with
   | zero=>exact fun _=>⟨[],rfl,fun x hx=>by simp at hx,fun j v hv=>by simp[RK.flat] at hv⟩
   | succ q ih=>
    intro hq
    obtain⟨l,h1,h2,h3⟩:=ih (by omega)
    obtain⟨cs',g1,g2⟩:=hx q (by omega)
    have g3:=BP 20 n e _ _ _ g2 hk
    obtain⟨y,hy,hf⟩:=hc cs' g3
    obtain⟨_,g4,g5⟩:=World.cells?_some g1
    refine⟨l++[y],by simp[h1],fun x hx=>?_,?_⟩
    ·rcases List.mem_append.1 hx with hx | hx
     ·exact h2 x hx
     ·simp at hx;subst hx;exact hy
    ·rw[RK.flat_append]
     refine yO h3 fun j v hv=>?_
     have e2:k.flat [y]=cs':=by
      rw[RK.flat_cons,k.at_flats y (fun _=>undef) vC,hf];simp[RK.flat]
     rw[e2] at hv
     have hj:j < cs'.length:=(List.getElem?_eq_some_iff.1 hv).1
     have:=g5 j (by omega)
     rw[hv,Addr.add_mid,Addr.add_mid] at this
     rw[RK.flat_len,h1, ← hz, ← this]
  obtain⟨l,h1,h2,h3⟩:=key len (Nat.le_refl _)
  exact⟨l,⟨⟨some ⟨b,o,none⟩,cap,by rw[h1],by omega,b,o,rfl,hlt,h3,fun e=>by cases e⟩,rfl⟩,h2⟩
theorem aeV {r:Reach} {b0:Nat} {k:RK} {t e:TypeId} {v:Value} {d:DataW H} {base:Nat} {sp:Nat→Bool} {held:Bool} {ps:List MemPlace} {ks:List CK} (ht:P.underlying t=some (.slice e)) (hk:kT P 20 e=some ks) (hz:P.cellsOf e=k.esz) {Q:k.ty→Prop}
  (hc: ∀ cs,dN ks cs→ ∃ x:k.ty,Q x∧aI vC (k.at x)=cs) (hval:Value.okWide P w r b0 t v) (hd:DataW.Trod enc P w base sp held t v d ps): ∃ l:List k.ty,SlP k w v l∧ ∀ x,x∈l→Q x:=by
 obtain⟨fuel,h⟩:=hd
 unfold Value.okWide at hval
 rw[ht] at hval
 simp only at hval
 have hv:v.cells.toList=[v]:=by
  cases v with
  | agg cs=>
   exfalso
   unfold Cell.okWide at hval
   rw[ht] at hval
   simp only at hval
   unfold Cell.ok at hval
   rw[ht] at hval
   exact hval
  | _=>rfl
 rw[hv] at h
 exact yN ht hk hz hc hval h
theorem IV: ∀ cs,dN kP cs→ ∃ x:RK.ty .pt,True∧aI vC (RK.at .pt x)=cs:=fun cs h=>by
 obtain⟨x,e⟩:=IP h
 exact⟨x,trivial,by simp[RK.at,aI,At.cells,e]⟩
structure Arg where
 v:Value
 k:RK
 l:List k.ty
def HK:List Arg→List Blk
 | []=>[]
 | a :: r=> .vec false a.k a.l :: HK r
def Cb (ags:List Arg):Rho:=fun i=>match ags[i]? with
 | some a=>a.v
 | none=> .pointer none
def RE (ags:List Arg):jH:=⟨fun _=>False,fun i=>i < ags.length,Cb ags,fun x=> ∃ i,bK (Cb ags i)=some x⟩
theorem zB: ∀ {ags:List Arg} {i:Nat} {b:Blk},(HK ags)[i]? =some b→ ∃ a,ags[i]? =some a∧b= .vec false a.k a.l
 | [],i,b,h=>by simp[HK] at h
 | a :: r,0,b,h=>by simp[HK] at h;exact⟨a,rfl,h.symm⟩
 | a :: r,i+1,b,h=>by
  obtain⟨a',h1,h2⟩:=zB (ags:=r) (i:=i) (by simpa [HK] using h)
  exact⟨a',by simpa using h1,h2⟩
theorem HS.args {ags:List Arg} (h: ∀ a,a∈ags→SlP a.k w a.v a.l):HS w (RE ags) (Cb ags) (gR (HK ags) 0) (fun i=>i < ags.length) w:=by
 have hx: ∀ i b,aN (gR (HK ags) 0) i=some b→ ∃ a,ags[i]? =some a∧b= .vec false a.k a.l:=fun i b h=>by
  rw[jQ,if_pos (Nat.zero_le _),Nat.sub_zero] at h
  exact zB h
 have hr: ∀ i a,ags[i]? =some a→Cb ags i=a.v:=fun i a h=>by unfold Cb;rw[h]
 exact {
  one:=fun i=>by
   unfold Cb
   split
   ·rename_i a ha;exact(h a (List.mem_of_getElem? ha)).one
   ·rfl
  ok:=fun i b hb=>by
   obtain⟨a,h1,rfl⟩:=hx i b hb
   rw[hr i a h1]
   exact⟨(List.getElem?_eq_some_iff.1 h1).1,Blk.flat_ok rfl _ (h a (List.mem_of_getElem? h1)).ok,trivial⟩
  sep:=fun i b j c hi hj hij ho=>by
   obtain⟨a,_,rfl⟩:=hx i b hi
   cases ho
  wr:=fun i b x hi ho=>by
   obtain⟨a,_,rfl⟩:=hx i b hi
   cases ho
  org:=fun i b x hi _ hxx=> .inr (.inr ⟨i,hxx⟩)
  frame:=fun _ _ _=>rfl
  os:=rfl
  tape:=rfl
  output:=rfl
  drawn:=Nat.le_refl _
  size:=Nat.le_refl _
  ag:=bZ.refl _ _
  inn:=fun _ h=>h }
theorem Bk {f:Nat} {sem:bU} (h:aJ P f sem) {ags:List Arg} {args:List CV} {ob:List Bool} {new:List Blk} (has: ∀ a,a∈ags→SlP a.k w a.v a.l)
  (hf: ∀ v,v∈args→iK (fun i=>i < ags.length) (Cb ags) v) (he:sem ags.length args (gR (HK ags) 0)=some ⟨ob, .c (.s (.bool true)),new,[]⟩) (ho: ∀ b,b∈ob→b=true) :
  Calls P f (args.map (CV.den (Cb ags))).toArray w fun e w'=>e= .returned (.bool true)∧Below w.heap.size w w':=
 (h.calls (fun i=>i < ags.length) ags.length args _ _ (fun i hi=>hi) he ho w (RE ags) (Cb ags) w (HS.args has) hf).mono fun e w' ⟨v,h1,ρ',_,hv,_,_,hb,_⟩=>
  ⟨by rw[h1,hv];rfl,(hb.below HC).toB⟩
end
end Go.Eng
