
import Derived.Test.YtbfknjpggfkgjaaGreatEngMW
set_option linter.all false
set_option exponentiation.threshold 3000
namespace Go.Eng
def z6:List Blk→Bool
 | []=>true
 | b :: r=>(match b with
  | .fix true _=>true
  | .vec _ _ _=>true
  | _=>false)&&b.flat&&z6 r
def HW (h:bT) (id:Nat):Bool:=match aN h id with
 | some b=> !b.own&&b.live
 | none=>false
def bV (ds:List PD) (A:Alg) (g:List CV→List Blk→Option LR):bU:=fun m xs h=>
 match dF A h ds xs 0 with
 | some c=>match c.ids.all (HW h) with
  | true=>match g c.args c.heap with
   | some r=>match z6 r.new with
    | true=>match Mq A r.new.length m c.sc.length c.sc r.val with
     | some (o,v)=>some ⟨c.ob++(r.ob++o),v,r.new,[]⟩
     | none=>none
    | false=>none
   | none=>none
  | false=>none
 | none=>none
def nZ (q:Nat) (τ:List Sc) (ρ:Rho):Rho:=fun j=>if j < q then ρ j else match τ[j - q]? with
 | some x=>x.den ρ
 | none=> .pointer none
def Sc.base:Sc→Option Nat
 | .hp id _=>some id
 | .hs id=>some id
 | .hw id _ _ _=>some id
 | .ha id _ _ _ _ _=>some id
 | _=>none
def fO (h:bT) (x:Sc) (b:Blk):Prop:=
 (b.own=true∧ ∃ t b',(x= .hs t∨x= .hp t 0)∧aN h t=some b'∧i5 b' b)∨
 (b.own=false∧ ∃ k c b',dF aA h [.s k] [.s x] 0=some c∧(∀ y,y∈c.ob→y=true)∧c.sc=[x]∧c.heap=[b']∧i5 b' b)
structure iV (q:Nat) (r:LR) (v:XV) (h:bT):Prop where
 ex: ∃ τ:List Sc,τ.length=r.new.length∧(∀ ρ,v.den ρ=r.val.den (nZ q τ ρ))∧(∀ (i:Nat) (x:Sc) (b:Blk),τ[i]? =some x→r.new[i]? =some b→fO h x b)∧
  ∀ (i j:Nat) (x y:Sc) (b:Blk),τ[i]? =some x→τ[j]? =some y→i≠j→r.new[i]? =some b→b.own=true→x.base≠y.base
theorem iV.pure {q:Nat} {r:LR} {v:XV} {h:bT} (hn:r.new=[]) (hv: ∀ ρ,v.den ρ=r.val.den (nZ q [] ρ)):iV q r v h:=
 ⟨[],by simp[hn],hv,fun i x b hx=>by simp at hx,fun i j x y b hx=>by simp at hx⟩
theorem iV.one {q:Nat} {r:LR} {v:XV} {h:bT} (x:Sc) (b:Blk) (hn:r.new=[b]) (hv: ∀ ρ,v.den ρ=r.val.den (nZ q [x] ρ)) (hs:fO h x b):iV q r v h:=
 ⟨[x],by simp[hn],hv,fun i x' b' hx hb=>by
  rw[hn] at hb
  cases i with
  | zero=>simp at hx hb;subst hx hb;exact hs
  | succ i=>simp at hx,fun i j x' y b' hx hy hij=>by
  cases i with
  | zero=>cases j with
   | zero=>exact absurd rfl hij
   | succ j=>simp at hy
  | succ i=>simp at hx⟩
theorem iV.two {q:Nat} {r:LR} {v:XV} {h:bT} (x y:Sc) (b c:Blk) (hn:r.new=[b,c]) (hv: ∀ ρ,v.den ρ=r.val.den (nZ q [x,y] ρ)) (hb:b.own=false) (hc:c.own=false) (hx:fO h x b) (hy:fO h y c):iV q r v h:=
 ⟨[x,y],by simp[hn],hv,fun i x' b' hx' hb'=>by
  rw[hn] at hb'
  match i with
  | 0=>simp at hx' hb';subst hx' hb';exact hx
  | 1=>simp at hx' hb';subst hx' hb';exact hy
  | i+2=>simp at hx',fun i j x' y' b' hx' hy' hij hb' ho=>by
  rw[hn] at hb'
  match i with
  | 0=>simp at hb';subst hb';rw[hb] at ho;cases ho
  | 1=>simp at hb';subst hb';rw[hc] at ho;cases ho
  | i+2=>simp at hb'⟩
theorem fO.hw {h:bT} {t z:Nat} {own:Bool} {k:RK} {l m:List k.ty} {lo hi:Int} (hl:aN h t=some (.vec own k l)) (hz:z=k.esz) (h0:0≤lo) (h1:lo≤hi) (h2:hi≤(l.length:Int)) (e:aA.sub l lo hi=m):fO h (.hw t z lo hi) (.vec false k m):=by
 subst hz e
 refine .inr ⟨rfl,k,⟨[.s (.hs 0)],[.vec false k (aA.sub l lo hi)],[.hw t k.esz lo hi],[aA.cmp .leq 0 lo,aA.cmp .leq lo hi,aA.cmp .leq hi (aA.len l)],[t],[]⟩, .vec false k (aA.sub l lo hi),?_,?_,rfl,rfl,⟨rfl,rfl,rfl,rfl,fun h=>h⟩⟩
 ·simp only[dF,hl,beq_self_eq_true,if_true]
  rfl
 ·intro y hy
  simp only[List.mem_cons,List.not_mem_nil,or_false] at hy
  rcases hy with rfl | rfl | rfl
  ·exact decide_eq_true h0
  ·exact decide_eq_true h1
  ·exact decide_eq_true h2
theorem fO.hs {h:bT} {t:Nat} {own:Bool} {k:RK} {l m:List k.ty} (hl:aN h t=some (.vec own k l)) (e:l=m):fO h (.hs t) (.vec false k m):=by
 subst e
 refine .inr ⟨rfl,k,⟨[.s (.hs 0)],[.vec false k l],[.hs t],[],[t],[]⟩, .vec false k l,?_,fun y hy=>by simp at hy,rfl,rfl,⟨rfl,rfl,rfl,rfl,fun h=>h⟩⟩
 simp only[dF,hl]
 rfl
theorem fO.nils {h:bT} {k:RK} {m:List k.ty} (e:m=[]):fO h .nils (.vec false k m):=by
 subst e
 exact .inr ⟨rfl,k,⟨[.s (.hs 0)],[.vec false k []],[.nils],[],[],[]⟩, .vec false k [],rfl,fun y hy=>by simp at hy,rfl,rfl,⟨rfl,rfl,rfl,rfl,fun h=>h⟩⟩
theorem fO.own {h:bT} {t:Nat} {x:Sc} {b b':Blk} (hx:x= .hs t∨x= .hp t 0) (hl:aN h t=some b') (hb:i5 b' b) (ho:b.own=true):fO h x b:= .inl ⟨ho,t,b',hx,hl,hb⟩
theorem mP {q i:Nat} {τ:List Sc} {x:Sc} {ρ:Rho} (h:τ[i]? =some x):nZ q τ ρ (q+i)=x.den ρ:=by
 unfold nZ
 rw[if_neg (by omega),show q+i - q=i from by omega,h]
theorem Sc.ren_id (x:Sc):x.ren (fun i=>i)=x:=by cases x <;> simp[Sc.ren]
theorem At.ren_id (a:At):a.ren (fun i=>i)=a:=by cases a <;> simp[At.ren,Sc.ren_id]
theorem CV.ren_id (a:CV):a.ren (fun i=>i)=a:=by
 cases a with
 | s x=>simp[CV.ren,Sc.ren_id]
 | g l=>
  have:(fun a=>At.ren (fun i=>i) a)=id:=funext At.ren_id
  simp only[CV.ren,this,List.map_id]
theorem XV.ren_id (a:XV):a.ren (fun i=>i)=a:=by
 cases a with
 | c x=>simp[XV.ren,CV.ren_id]
 | t l=>
  have:(fun a=>CV.ren (fun i=>i) a)=id:=funext CV.ren_id
  simp only[XV.ren,this,List.map_id]
theorem tW {h:bT} {k:RK} {x:Sc} {c:eJ} (e:dF aA h [.s k] [.s x] 0=some c): ∀ id,id∈c.ids→x.base=some id:=by
 cases x <;> simp only[dF] at e <;> repeat' split at e
 all_goals first
  |(simp at e;done)
  |(simp only[Option.some.injEq] at e;subst e;intro id hid;simp_all;done)
  |(unfold eJ.rd at e
    split at e
    ·simp at e
    ·simp only[Option.some.injEq] at e;subst e
     intro id hid
     simp_all [Sc.base])
section
variable {P:Program} {T:Nat→Option TI} {C:Nat→Option bU}
theorem dM (hT:TOK P T) (hC:COK P C) (hm:P.follows .mixedOrders=true) {f:Nat} {fn:Func}
  {ds:List PD} {g:List CV→List Blk→Option LR} {un:Md}
  (hrun: ∀ (w:World) (Wr:jH) (args:List CV) (bs:List Blk) (r:LR),g args bs=some r→(∀ b,b∈r.ob→b=true)→(∀ i,Wr.ids i→i < bs.length)→
   ∀ (A:Alg) (L:Code→St→(Exit→St→Prop)→Prop) (k:XV→bT→Prop),A=aA→(∀ c s k,gI P (cx0 fn.ntmps T C) w Wr c s k→L c s k)→(∀ v h,iV bs.length r v h→k v h)→
    G5 ⟨0,A,T,C,un,L⟩ fn args (gR bs 0) bs.length k) (hf:P.funcs[f]? =some fn:=by kernel_rfl) (hn:fn.body.isNone=false:=by kernel_rfl) (hnm:(fn.name == "runtime.NumGoroutine")=false:=by kernel_rfl) (hN:ds.length≤fn.ntmps:=by decide +kernel):aJ P f (bV ds aA g) where
 enters args w:=by
  unfold callFunc
  simp only[Sem.run_bind,run_program,Result.andThen_ok,hf]
  rw[if_neg (by rw[hnm];simp),if_neg (by rw[hn];simp)]
  rfl
 calls n m args h r hlt hr hob w0 Wr ρ w hs hargs:=by
  unfold bV at hr
  split at hr
  ·rename_i c hcan
   split at hr
   ·rename_i hno
    split at hr
    ·rename_i rr hg
     split at hr
     ·rename_i hnew
      split at hr
      ·rename_i o y hy
       simp only[Option.some.injEq] at hr
       subst hr
       have ho1: ∀ b,b∈c.ob→b=true:=fun b hb=>hob b (by simp[hb])
       have ho2: ∀ b,b∈rr.ob→b=true:=fun b hb=>hob b (by simp[hb])
       have ho3: ∀ b,b∈o→b=true:=fun b hb=>hob b (by simp[hb])
       have hc:=cB rfl hs hcan ho1
       have hlen:=v4 hcan
       have hentry:=HS.enter hc
       have hr0: ∀ i x,c.sc[i]? =some x→(iY c ρ).rho i=x.den ρ:=fun i x h=>by simp only[iY,h]
       have hcall:=uE (un:=un) hT hC hm hf hentry (fun v hv=>(hc.stb v hv _).mono fun i hi=>by omega) (fun i hi=>by rw[hc.len];exact hi) (by rw[hlen];exact hN) (R:=iV c.heap.length rr)
        (hrun w (iY c ρ) c.args c.heap rr hg ho2 (fun i hi=>by rw[hc.len];exact hi))
       rw[hc.args _ (fun i x hx=>by rw[Nat.zero_add];exact hr0 i x hx)] at hcall
       refine hcall.mono fun e w' ⟨v,ρ2,n2,h2,hgood,he,hst,hs2⟩=>?_
       obtain⟨τ,t1,t3,t4,t5⟩:=hgood.ex
       have hq:c.heap.length=c.sc.length:=hc.len
       rw[hq] at t3
       have hkno: ∀ id,id∈c.ids→ ∃ k,aN h id=some k∧k.own=false∧k.live=true:=fun id hid=>by
        have:=List.all_eq_true.1 hno id hid
        unfold HW at this
        split at this
        ·rename_i k hk;simp only[Bool.and_eq_true,Bool.not_eq_true'] at this;exact⟨k,hk,this.1,this.2⟩
        ·cases this
       have hWr: ∀ y, ¬ (iY c ρ).wr y:=fun y ⟨i,x,b,h1,h2,h3,h4⟩=>by
        obtain⟨id,k,g1,g2,g3,g4⟩:=hc.own i x b h1 h2 h3
        obtain⟨g5,_⟩:=hc.wis _ _ g1
        obtain⟨k',e1,e2,_⟩:=hkno id g5
        rw[g2] at e1
        simp only[Option.some.injEq] at e1
        subst e1
        rw[g3] at e2;cases e2
       have hbel:Low w.heap.size w w':=hs2.toBelow hWr
       let ρx:Rho:=nZ c.sc.length τ ρ2
       let ρ3:Rho:=fun i=>if m≤i∧i < m+rr.new.length then ρx (c.sc.length+(i - m)) else ρ i
       have hag:bZ n ρ ρ3:=fun i hi=>by have:=hlt i hi;show ite _ _ _=_;rw[if_neg (by omega)]
       have hold: ∀ i,n i→ρ3 i=ρ i:=fun i hi=>hag i hi
       have hx: ∀ j,j < c.sc.length→ρx j=ρ2 j:=fun j hj=>by show ite _ _ _=_;rw[if_pos hj]
       have hnewr: ∀ q x,τ[q]? =some x→q < rr.new.length→ρ3 (m+q)=x.den ρ2:=fun q x hq hql=>by
        show ite _ _ _=_
        rw[if_pos ⟨by omega,by omega⟩,show m+q - m=q from by omega]
        show ite _ _ _=_
        rw[if_neg (by omega),show c.sc.length+q - c.sc.length=q from by omega,hq]
       obtain⟨y1,y2⟩:=oL (ρ2:=ρx) (ρ3:=ρ3) (f:=fun i=>i) (n:=n) (q:=c.sc.length) rfl (fun j x hxj=>by
         have hj:=(List.getElem?_eq_some_iff.1 hxj).1
         rw[hx j hj,hs2.ag j hj,hr0 j x hxj]) (fun j h1 h2=>by
         show ite _ _ _=_
         rw[if_pos ⟨by omega,by omega⟩,show c.sc.length+(m+(j - c.sc.length) - m)=j from by omega]) hag hc.scs hy ho3
       rw[XV.ren_id] at y1
       have hτ: ∀ (q:Nat) (b:Blk),rr.new[q]? =some b→ ∃ x,τ[q]? =some x∧ρ3 (m+q)=x.den ρ2∧fO h2 x b:=fun q b hb=>by
        have h1:=(List.getElem?_eq_some_iff.1 hb).1
        have h1':=h1
        rw[← t1] at h1
        have e:=List.getElem?_eq_getElem h1
        exact⟨τ[q],e,hnewr q _ e h1',t4 q _ b e hb⟩
       have hfl: ∀ (q:Nat) (b:Blk),rr.new[q]? =some b→b.flat=true:=fun q b hb=>by
        have: ∀ (l:List Blk),z6 l=true→ ∀ b,b∈l→b.flat=true:=fun l=>by
         induction l with
         | nil=>intro _ b hb;simp at hb
         | cons a r ih=>
          intro h b hb
          simp only[z6,Bool.and_eq_true] at h
          simp only[List.mem_cons] at hb
          rcases hb with rfl | hb
          ·exact h.1.2
          ·exact ih h.2 b hb
        exact this _ hnew b (List.mem_of_getElem? hb)
       have hsrc: ∀ (x:Sc) (b:Blk),fO h2 x b→b.flat=true→(∀ ρ',b.ok w' (x.den ρ2) ρ')∧(x.den ρ2).oneCell'=true∧
         ∀ y,bK (x.den ρ2)=some y→ ∃ id b',x.base=some id∧aN h2 id=some b'∧b'.live=true∧bK (ρ2 id)=some y∧(b.own=true→b'.own=true):=fun x b hsx hfb=>by
        rcases hsx with ⟨hown,t,b',hxt,hlt,hle⟩ | ⟨hown,k,c',b',e1,e2,e3,e4,e5⟩
        ·have hok:=hle.ok (hs2.ok t b' hlt).2.1
         have hd:x.den ρ2=ρ2 t:=by
          rcases hxt with rfl | rfl
          ·rfl
          ·exact fU _
         rw[hd]
         refine⟨fun ρ'=>Blk.flat_ok hfb ρ' hok,hs2.one t,fun y hy=>⟨t,b',?_,hlt,Blk.live_own (by rw[hle.own];exact hown),hy,fun _=>by rw[hle.own];exact hown⟩⟩
         rcases hxt with rfl | rfl <;> rfl
        ·have hc':=cB rfl hs2 e1 e2
         obtain⟨g1,g2,g3,g4⟩:=hc'.blk 0 x b' (by rw[e3];rfl) (by rw[e4];rfl)
         refine⟨fun ρ'=>Blk.flat_ok hfb ρ' (e5.ok g3),g4,fun y hy=>?_⟩
         obtain⟨id,k',f1,f2,f3,f4⟩:=hc'.at_ x (by rw[e3];simp) y hy
         exact⟨id,k',tW e1 id f1,f2,f3,f4,fun e=>by rw[hown] at e;cases e⟩
       have hsize:=hbel.size
       have hpos: ∀ (q:Nat) (b:Blk) (x:Nat),rr.new[q]? =some b→bK (ρ3 (m+q))=some x→w.heap.size≤x∨(b.own=false∧ ∃ k c',aN h k=some c'∧c'.own=false∧c'.live=true∧bK (ρ k)=some x):=fun q b x hb hxb=>by
        obtain⟨xs,g1,g2,g3⟩:=hτ q b hb
        rw[g2] at hxb
        obtain⟨_,_,h3⟩:=hsrc xs b g3 (hfl q b hb)
        obtain⟨id,b',e1,e2,e3,e4,e5⟩:=h3 x hxb
        by_cases hown:b.own=true
        ·rcases hs2.wr id b' x e2 (e5 hown) e4 with h | h
         ·exact .inl h
         ·exact absurd h (hWr x)
        ·rcases hs2.org id b' x e2 e3 e4 with h | h | ⟨i,x',f1,f2⟩
         ·exact .inl h
         ·exact absurd h (hWr x)
         ·obtain⟨id',k',u1,u2,u3,u4⟩:=hc.at_ x' (List.mem_of_getElem? f1) x f2
          obtain⟨k,v1,v2,v3⟩:=hkno id' u1
          exact .inr ⟨by simpa using hown,id',k,v1,v2,v3,u4⟩
       have hlook: ∀ i b,aN (rT h m rr.new) i=some b→(∃ q,i=m+q∧q < rr.new.length∧rr.new[q]? =some b)∨(¬ (m≤i∧i < m+rr.new.length)∧aN h i=some b):=fun i b hb=>by
        rw[gB] at hb
        split at hb
        ·rename_i hi;exact .inl ⟨i - m,by omega,by omega,hb⟩
        ·rename_i hi;exact .inr ⟨hi,hb⟩
       have holdx: ∀ i b x,aN h i=some b→bK (ρ i)=some x→x < w.heap.size:=fun i b x hb hx=>Blk.block (hs.ok i b hb).2.1 hx
       have hsb:=hs.below hbel
       refine⟨v.den ρ2,he,ρ3,hag,by rw[t3,y1],y2,?_,But.of hbel,fun i x g1 g2 hx=>?_⟩
       ·refine { one:=fun i=>?_,ok:=fun i b hl=>?_,sep:=fun i b j b2 hi hj hij ho hlv x hx hx2=>?_,wr:=fun i b x hi ho hx=>?_,org:=fun i b x hi hlv hx=>?_,frame:=hsb.frame,drawn:=Nat.le_trans hs.drawn hbel.drawn,os:=hsb.os,tape:=hsb.tape,output:=hsb.output,size:=hsb.size,ag:=hs.ag.trans hag hs.inn,inn:=fun i hi=> .inl (hs.inn i hi) }
        ·by_cases hi:m≤i∧i < m+rr.new.length
         ·have hb: ∃ b,rr.new[i - m]? =some b:=⟨_,List.getElem?_eq_getElem (by omega)⟩
          obtain⟨b,hb⟩:=hb
          obtain⟨xs,g1,g2,g3⟩:=hτ _ b hb
          rw[show m+(i - m)=i from by omega] at g2
          rw[g2]
          exact(hsrc xs b g3 (hfl _ b hb)).2.1
         ·show(ite _ _ _:Value).oneCell'=true
          rw[if_neg hi]
          exact hs.one _
        ·rcases hlook i b hl with ⟨q,rfl,hq,hb2⟩ | ⟨hi,hl⟩
         ·obtain⟨xs,g1,g2,g3⟩:=hτ q b hb2
          have g6:=hfl q b hb2
          rw[g2]
          exact⟨show kZ n m rr.new.length _ from .inr ⟨by omega,by omega⟩,(hsrc xs b g3 g6).1 _,Blk.flat_stb g6 _ _⟩
         ·obtain⟨g1,g2,g3⟩:=hsb.ok i b hl
          rw[hold i g1]
          exact⟨.inl g1,Blk.ok_move g3 hag g2,Blk.stb_move g3 hag fun _ hi=> .inl hi⟩
        ·rcases hlook i b hi with ⟨q,rfl,hq,hb2⟩ | ⟨hi,hl⟩
         ·have hx3:w.heap.size≤x:=by
           rcases hpos q b x hb2 hx with h | ⟨h,_⟩
           ·exact h
           ·rw[h] at ho;cases ho
          rcases hlook j b2 hj with ⟨q',rfl,hq',hb3⟩ | ⟨hj,hl'⟩
          ·obtain⟨xs,g1,g2,g3⟩:=hτ q b hb2
           obtain⟨xs',g1',g2',g3'⟩:=hτ q' b2 hb3
           rw[g2] at hx
           rw[g2'] at hx2
           obtain⟨id,b',e1,e2,e3,e4,e5⟩:=(hsrc xs b g3 (hfl q b hb2)).2.2 x hx
           obtain⟨id',b'',f1,f2,f3,f4,f5⟩:=(hsrc xs' b2 g3' (hfl q' b2 hb3)).2.2 x hx2
           have hne:id≠id':=fun e=>t5 q q' xs xs' b g1 g1' (by omega) hb2 ho (by rw[e1,f1,e])
           exact hs2.sep id b' id' b'' e2 f2 hne (e5 ho) f3 x e4 f4
          ·rw[hold j (hs.ok j b2 hl').1] at hx2
           have:=holdx j b2 x hl' hx2
           omega
         ·rw[hold i (hs.ok i b hl).1] at hx
          have hx3:=holdx i b x hl hx
          rcases hlook j b2 hj with ⟨q',rfl,hq',hb3⟩ | ⟨hj,hl'⟩
          ·rcases hpos q' b2 x hb3 hx2 with h | ⟨_,k,c',e1,e2,e3,e4⟩
           ·omega
           ·refine hs.sep i b k c' hl e1 (fun e=>?_) ho e3 x hx e4
            subst e
            rw[hl] at e1
            simp only[Option.some.injEq] at e1
            subst e1
            rw[ho] at e2;cases e2
          ·rw[hold j (hs.ok j b2 hl').1] at hx2
           exact hs.sep i b j b2 hl hl' hij ho hlv x hx hx2
        ·rcases hlook i b hi with ⟨q,rfl,hq,hb2⟩ | ⟨hi,hl⟩
         ·rcases hpos q b x hb2 hx with h | ⟨h,_⟩
          ·have:=hs.size
           exact .inl (by omega)
          ·rw[h] at ho;cases ho
         ·rw[hold i (hs.ok i b hl).1] at hx
          exact hs.wr i b x hl ho hx
        ·rcases hlook i b hi with ⟨q,rfl,hq,hb2⟩ | ⟨hi,hl⟩
         ·rcases hpos q b x hb2 hx with h | ⟨_,k,c',e1,e2,e3,e4⟩
          ·have:=hs.size
           exact .inl (by omega)
          ·exact hs.org k c' x e1 e3 e4
         ·rw[hold i (hs.ok i b hl).1] at hx
          exact hs.org i b x hl hlv hx
       ·have hb: ∃ b,rr.new[i - m]? =some b:=⟨_,List.getElem?_eq_getElem (by simp only at g2;omega)⟩
        obtain⟨b,hb⟩:=hb
        rcases hpos (i - m) b x hb (by rw[show m+(i - m)=i from by omega];exact hx) with h | ⟨h1,k,c',e1,e2,e3,e4⟩
        ·exact .inl h
        ·exact .inr (.inr ⟨i - m,b,k,c',by omega,hb,h1,e1,e2,e3,e4⟩)
      ·simp at hr
     ·simp at hr
    ·simp at hr
   ·simp at hr
  ·simp at hr
end
theorem zW {α:Type} : ∀ (l m:List (Nat×α)) (i:Nat),aN (l++m) i=match aN l i with
  | some v=>some v
  | none=>aN m i
 | [],m,i=>rfl
 |(j,v) :: r,m,i=>by
  simp only[List.cons_append,aN]
  split
  ·rfl
  ·exact zW r m i
theorem It {P:Program} {l m:List (Nat×bU)} (h:COK P (aN l)) (h':COK P (aN m)):COK P (aN (l++m)):=fun f s e=>by
 rw[zW] at e
 split at e
 ·rename_i v hv;cases e;exact h f _ hv
 ·exact h' f s e
theorem atK {K:Cx} {full:List Oper} {heap:bT} {tl:List Oper} {len:Nat} {k:St→Prop} {l:List Oper} {q:FS} (h0:l=[]) (h1:lU q.F tl len=true)
  (h2:Mw q.ob (rL K full tl ⟨q.env,fE heap q.F 0 (fun _=>true),q.id⟩ k)):Dr K full heap tl len k l q:=by
 subst h0
 show(if lU q.F tl len=true then _ else False)
 rw[if_pos h1]
 exact h2
section
variable {w0:World} {Wr:jH} {ρ:Rho} {h:bT} {n:Ids} {m:Nat} {w:World}
theorem HS.after (hs:HS w0 Wr ρ h n w) (hm: ∀ i,n i→i < m) {w':World} {wr:bT} (hwn:(wr.map (·.1)).Nodup) (hb:But (xB ρ wr) w w') {v:Value} {nb:Blk} (hv:v.oneCell'=true)
  (hwr: ∀ i b,aN wr i=some b→ ∃ k,aN h i=some k∧k.own=true∧b.ok w' (ρ i) (upd ρ m v)∧b.stb (kZ n m 1) (upd ρ m v))
  (hk:nb.ok w' v (upd ρ m v)) (hst:nb.stb (kZ n m 1) (upd ρ m v))
  (hnew: ∀ x,bK v=some x→w.heap.size≤x∨ ∃ i k,aN wr i=some .gone∧aN h i=some k∧k.own=true∧bK (ρ i)=some x) :
  HS w0 Wr (upd ρ m v) (rT (oS h wr) m [nb]) (kZ n m 1) w':=by
 have hag:bZ n ρ (upd ρ m v):=fF ρ hm v
 have hold: ∀ i,n i→upd ρ m v i=ρ i:=fun i hi=>hag i hi
 have hlook: ∀ i b,aN (rT (oS h wr) m [nb]) i=some b→(i=m∧b=nb)∨(i≠m∧((aN wr i=some b∧ ∃ k,aN h i=some k∧k.own=true)∨(aN wr i=none∧aN h i=some b))):=fun i b hb=>by
  have hb:aN ((m,nb) :: oS h wr) i=some b:=hb
  simp only[aN] at hb
  split at hb
  ·rename_i he
   simp only[beq_iff_eq] at he
   simp only[Option.some.injEq] at hb
   exact .inl ⟨he.symm,hb.symm⟩
  ·rename_i he
   have hne:i≠m:=fun e=>he (by simp[e])
   rw[gS wr h i hwn] at hb
   split at hb
   ·rename_i c' hc'
    obtain⟨k,hk,hko,_⟩:=hwr i c' hc'
    rw[hk] at hb
    simp only[Option.map_some,Option.some.injEq] at hb
    subst hb
    exact .inr ⟨hne, .inl ⟨hc',k,hk,hko⟩⟩
   ·rename_i hc';exact .inr ⟨hne, .inr ⟨hc',hb⟩⟩
 have holdx: ∀ i b x,aN h i=some b→bK (ρ i)=some x→x < w.heap.size:=fun i b x hb hx=>Blk.block (hs.ok i b hb).2.1 hx
 have hkeep: ∀ i b,aN wr i=none→aN h i=some b→b.live=true→ ∀ x,bK (ρ i)=some x→w'.heap[x]? =w.heap[x]? :=fun i b hw hl hlv x hx=>by
  refine hb.block x (holdx i b x hl hx) fun⟨id,b1,g1,g2⟩=>?_
  obtain⟨p,hp⟩:=List.getElem?_of_mem g1
  have hlw:=eC hwn hp
  obtain⟨k,e7,e8,_⟩:=hwr id b1 hlw
  have hne:id≠i:=fun e=>by subst e;rw[hw] at hlw;cases hlw
  exact hs.sep id k i b e7 hl hne e8 hlv x g2 hx
 have hbef: ∀ i b,i≠m→aN (rT (oS h wr) m [nb]) i=some b→ ∃ k,aN h i=some k∧(b.own=true→k.own=true)∧(b.live=true→k.live=true)∧(aN wr i=some .gone→b= .gone):=fun i b hne hl=>by
  rcases hlook i b hl with ⟨he,_⟩ | ⟨_,⟨hw,k,hk,hko⟩ | ⟨hw,hl⟩⟩
  ·exact absurd he hne
  ·exact⟨k,hk,fun _=>hko,fun _=>Blk.live_own hko,fun e=>by rw[hw] at e;simpa using e⟩
  ·exact⟨b,hl,id,id,fun e=>by rw[hw] at e;cases e⟩
 exact {
  one:=fun i=>by unfold upd;split;exact hv;exact hs.one i
  ok:=fun i b hl=>by
   rcases hlook i b hl with ⟨rfl,rfl⟩ | ⟨hne,⟨hw,k,hk',_⟩ | ⟨hw,hl⟩⟩
   ·rw[dE];exact⟨.inr ⟨Nat.le_refl _,by omega⟩,hk,hst⟩
   ·obtain⟨k',e1,e2,e3,e4⟩:=hwr i b hw
    have hni:=(hs.ok i k hk').1
    rw[hold i hni]
    exact⟨.inl hni,e3,e4⟩
   ·obtain⟨g1,g2,g3⟩:=hs.ok i b hl
    rw[hold i g1]
    refine⟨.inl g1,?_,Blk.stb_move g3 hag fun _ hi=> .inl hi⟩
    by_cases hlv:b.live=true
    ·exact Blk.ok_move g3 hag (Blk.ok_of_block hb.size (fun x hx=>hkeep i b hw hl hlv x hx) g2)
    ·cases b with
     | gone=>exact fun x hx=>Nat.lt_of_lt_of_le (g2 x hx) hb.size
     | fix=>exact absurd rfl hlv
     | vec=>exact absurd rfl hlv
  sep:=fun i b j c hi hj hij ho hlv x hx hxj=>by
   by_cases him:i=m
   ·subst him
    rw[dE] at hx
    obtain⟨k,f1,f2,f3,f4⟩:=hbef j c (fun e=>hij e.symm) hj
    rw[hold j (hs.ok j k f1).1] at hxj
    rcases hnew x hx with h1 | ⟨i',k',g1,g2,g3,g4⟩
    ·have:=holdx j k x f1 hxj;omega
    ·by_cases e:i'=j
     ·subst e
      rw[f4 g1] at hlv
      cases hlv
     ·exact hs.sep i' k' j k g2 f1 e g3 (f3 hlv) x g4 hxj
   ·obtain⟨k,e1,e2,e3,e4⟩:=hbef i b him hi
    rw[hold i (hs.ok i k e1).1] at hx
    by_cases hjm:j=m
    ·subst hjm
     rw[dE] at hxj
     rcases hnew x hxj with h1 | ⟨i',k',g1,g2,g3,g4⟩
     ·have:=holdx i k x e1 hx;omega
     ·by_cases e:i'=i
      ·subst e
       rw[e4 g1] at ho
       cases ho
      ·exact hs.sep i k i' k' e1 g2 (fun e'=>e e'.symm) (e2 ho) (Blk.live_own g3) x hx g4
    ·obtain⟨k',f1,f2,f3,_⟩:=hbef j c hjm hj
     rw[hold j (hs.ok j k' f1).1] at hxj
     exact hs.sep i k j k' e1 f1 hij (e2 ho) (f3 hlv) x hx hxj
  wr:=fun i b x hi ho hx=>by
   by_cases him:i=m
   ·subst him
    rw[dE] at hx
    rcases hnew x hx with h1 | ⟨i',k',g1,g2,g3,g4⟩
    ·have:=hs.size;exact .inl (by omega)
    ·exact hs.wr i' k' x g2 g3 g4
   ·obtain⟨k,e1,e2,e3,e4⟩:=hbef i b him hi
    rw[hold i (hs.ok i k e1).1] at hx
    exact hs.wr i k x e1 (e2 ho) hx
  org:=fun i b x hi hlv hx=>by
   by_cases him:i=m
   ·subst him
    rw[dE] at hx
    rcases hnew x hx with h1 | ⟨i',k',g1,g2,g3,g4⟩
    ·have:=hs.size;exact .inl (by omega)
    ·exact hs.org i' k' x g2 (Blk.live_own g3) g4
   ·obtain⟨k,e1,e2,e3,e4⟩:=hbef i b him hi
    rw[hold i (hs.ok i k e1).1] at hx
    exact hs.org i k x e1 (e3 hlv) hx
  frame:=fun x h1 h2=>by
   have hnw: ¬ xB ρ wr x:=fun⟨id,b1,g1,g2⟩=>by
    obtain⟨p,hp⟩:=List.getElem?_of_mem g1
    obtain⟨k,e7,e8,_⟩:=hwr id b1 (eC hwn hp)
    rcases hs.wr id k x e7 e8 g2 with h3 | h3
    ·omega
    ·exact h2 h3
   rw[hb.block x (Nat.lt_of_lt_of_le h1 hs.size) hnw]
   exact hs.frame x h1 h2
  os:=hb.os.trans hs.os
  tape:=hb.tape.trans hs.tape
  output:=hb.output.trans hs.output
  drawn:=Nat.le_trans hs.drawn hb.drawn
  size:=Nat.le_trans hs.size hb.size
  ag:=hs.ag.trans hag hs.inn
  inn:=fun i hi=> .inl (hs.inn i hi) }
end
section
variable {P:Program} {T:Nat→Option TI} {C:Nat→Option bU}
end
theorem IL {p:Prop} (b:Bool) (h1:b=true→p) (h0:b=false→p):p:=by
 cases b with
 | true=>exact h1 rfl
 | false=>exact h0 rfl
theorem sV {A:Alg} (hA:A=aA) {b c:Bool} (h:c=true):A.imp b c=true:=by
 subst hA;subst h;show(!b||true)=true;simp
end Go.Eng
