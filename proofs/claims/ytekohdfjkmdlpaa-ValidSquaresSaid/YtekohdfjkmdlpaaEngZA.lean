
import Derived.Test.YtekohdfjkmdlpaaEngMW
set_option linter.all false
set_option exponentiation.threshold 3000
namespace Go.Eng
def nZ (q:Nat) (τ:List Sc) (ρ:Rho):Rho:=fun j=>if j < q then ρ j else match τ[j - q]? with
 | some x=>x.den ρ
 | none=> .pointer none
def Sc.base:Sc→Option Nat
 | .hp id _=>some id
 | .hs id=>some id
 | .hw id _ _ _=>some id
 | .ha id _ _ _ _ _=>some id
 | _=>none
def fO (h:bT) (x:Sc) (b:Blk):Prop:=
 (b.own=true∧ ∃ t b',(x= .hs t∨x= .hp t 0)∧aN h t=some b'∧i8 b' b)∨
 (b.own=false∧ ∃ k c b',dF aA h [.s k] [.s x] 0=some c∧(∀ y,y∈c.ob→y=true)∧c.sc=[x]∧c.heap=[b']∧i8 b' b)
structure iV (q:Nat) (r:LR) (v:XV) (h:bT):Prop where
 ex: ∃ τ:List Sc,τ.length=r.new.length∧(∀ ρ,v.den ρ=r.val.den (nZ q τ ρ))∧(∀ (i:Nat) (x:Sc) (b:Blk),τ[i]? =some x→r.new[i]? =some b→fO h x b)∧
  ∀ (i j:Nat) (x y:Sc) (b:Blk),τ[i]? =some x→τ[j]? =some y→i≠j→r.new[i]? =some b→b.own=true→x.base≠y.base
theorem iV.pure {q:Nat} {r:LR} {v:XV} {h:bT} (hn:r.new=[]) (hv: ∀ ρ,v.den ρ=r.val.den (nZ q [] ρ)):iV q r v h:=
 ⟨[],by simp[hn],hv,fun i x b hx=>by simp at hx,fun i j x y b hx=>by simp at hx⟩
theorem iV.one {q:Nat} {r:LR} {v:XV} {h:bT} (x:Sc) (b:Blk) (hn:r.new=[b]) (hv: ∀ ρ,v.den ρ=r.val.den (nZ q [x] ρ)) (hs:fO h x b):iV q r v h:=
 ⟨[x],by simp[hn],hv,fun i x' b' hx hb=>by
  rw[hn] at hb
  cases i with
  | zero=>simp at hx hb;subst hx hb;exact hs
  | succ i=>simp at hx,fun i j x' y b' hx hy hij=>by
  cases i with
  | zero=>cases j with
   | zero=>exact absurd rfl hij
   | succ j=>simp at hy
  | succ i=>simp at hx⟩
theorem iV.two {q:Nat} {r:LR} {v:XV} {h:bT} (x y:Sc) (b c:Blk) (hn:r.new=[b,c]) (hv: ∀ ρ,v.den ρ=r.val.den (nZ q [x,y] ρ)) (hb:b.own=false) (hc:c.own=false) (hx:fO h x b) (hy:fO h y c):iV q r v h:=
 ⟨[x,y],by simp[hn],hv,fun i x' b' hx' hb'=>by
  rw[hn] at hb'
  match i with
  | 0=>simp at hx' hb';subst hx' hb';exact hx
  | 1=>simp at hx' hb';subst hx' hb';exact hy
  | i+2=>simp at hx',fun i j x' y' b' hx' hy' hij hb' ho=>by
  rw[hn] at hb'
  match i with
  | 0=>simp at hb';subst hb';rw[hb] at ho;cases ho
  | 1=>simp at hb';subst hb';rw[hc] at ho;cases ho
  | i+2=>simp at hb'⟩
theorem fO.hw {h:bT} {t z:Nat} {own:Bool} {k:RK} {l m:List k.ty} {lo hi:Int} (hl:aN h t=some (.vec own k l)) (hz:z=k.esz) (h0:0≤lo) (h1:lo≤hi) (h2:hi≤(l.length:Int)) (e:aA.sub l lo hi=m):fO h (.hw t z lo hi) (.vec false k m):=by
 subst hz e
 refine .inr ⟨rfl,k,⟨[.s (.hs 0)],[.vec false k (aA.sub l lo hi)],[.hw t k.esz lo hi],[aA.cmp .leq 0 lo,aA.cmp .leq lo hi,aA.cmp .leq hi (aA.len l)],[t],[]⟩, .vec false k (aA.sub l lo hi),?_,?_,rfl,rfl,⟨rfl,rfl,rfl,rfl,fun h=>h⟩⟩
 ·simp only[dF,hl,beq_self_eq_true,if_true]
  rfl
 ·intro y hy
  simp only[List.mem_cons,List.not_mem_nil,or_false] at hy
  rcases hy with rfl | rfl | rfl
  ·exact decide_eq_true h0
  ·exact decide_eq_true h1
  ·exact decide_eq_true h2
theorem fO.hs {h:bT} {t:Nat} {own:Bool} {k:RK} {l m:List k.ty} (hl:aN h t=some (.vec own k l)) (e:l=m):fO h (.hs t) (.vec false k m):=by
 subst e
 refine .inr ⟨rfl,k,⟨[.s (.hs 0)],[.vec false k l],[.hs t],[],[t],[]⟩, .vec false k l,?_,fun y hy=>by simp at hy,rfl,rfl,⟨rfl,rfl,rfl,rfl,fun h=>h⟩⟩
 simp only[dF,hl]
 rfl
theorem fO.nils {h:bT} {k:RK} {m:List k.ty} (e:m=[]):fO h .nils (.vec false k m):=by
 subst e
 exact .inr ⟨rfl,k,⟨[.s (.hs 0)],[.vec false k []],[.nils],[],[],[]⟩, .vec false k [],rfl,fun y hy=>by simp at hy,rfl,rfl,⟨rfl,rfl,rfl,rfl,fun h=>h⟩⟩
theorem fO.own {h:bT} {t:Nat} {x:Sc} {b b':Blk} (hx:x= .hs t∨x= .hp t 0) (hl:aN h t=some b') (hb:i8 b' b) (ho:b.own=true):fO h x b:= .inl ⟨ho,t,b',hx,hl,hb⟩
theorem mP {q i:Nat} {τ:List Sc} {x:Sc} {ρ:Rho} (h:τ[i]? =some x):nZ q τ ρ (q+i)=x.den ρ:=by
 unfold nZ
 rw[if_neg (by omega),show q+i - q=i from by omega,h]
theorem Sc.ren_id (x:Sc):x.ren (fun i=>i)=x:=by cases x <;> simp[Sc.ren]
theorem At.ren_id (a:At):a.ren (fun i=>i)=a:=by cases a <;> simp[At.ren,Sc.ren_id]
theorem CV.ren_id (a:CV):a.ren (fun i=>i)=a:=by
 cases a with
 | s x=>simp[CV.ren,Sc.ren_id]
 | g l=>
  have:(fun a=>At.ren (fun i=>i) a)=id:=funext At.ren_id
  simp only[CV.ren,this,List.map_id]
theorem XV.ren_id (a:XV):a.ren (fun i=>i)=a:=by
 cases a with
 | c x=>simp[XV.ren,CV.ren_id]
 | t l=>
  have:(fun a=>CV.ren (fun i=>i) a)=id:=funext CV.ren_id
  simp only[XV.ren,this,List.map_id]
section
variable {P:Program} {T:Nat→Option TI} {C:Nat→Option bU}
end
theorem zW {α:Type} : ∀ (l m:List (Nat×α)) (i:Nat),aN (l++m) i=match aN l i with
  | some v=>some v
  | none=>aN m i
 | [],m,i=>rfl
 |(j,v) :: r,m,i=>by
  simp only[List.cons_append,aN]
  split
  ·rfl
  ·exact zW r m i
theorem It {P:Program} {l m:List (Nat×bU)} (h:COK P (aN l)) (h':COK P (aN m)):COK P (aN (l++m)):=fun f s e=>by
 rw[zW] at e
 split at e
 ·rename_i v hv;cases e;exact h f _ hv
 ·exact h' f s e
theorem U7 {K:Cx} {n:Nat} {s:St} {k:Exit→St→Prop} (h:k .normal s):run K (n+1) .skip s k:=h
end Go.Eng
namespace Go.Eng
section
variable {w0:World} {Wr:jH} {ρ:Rho} {h:bT} {n:Ids} {m:Nat} {w:World}
theorem HS.after (hs:HS w0 Wr ρ h n w) (hm: ∀ i,n i→i < m) {w':World} {wr:bT} (hwn:(wr.map (·.1)).Nodup) (hb:But (xB ρ wr) w w') {v:Value} {nb:Blk} (hv:v.oneCell'=true)
  (hwr: ∀ i b,aN wr i=some b→ ∃ k,aN h i=some k∧k.own=true∧b.ok w' (ρ i) (upd ρ m v)∧b.stb (kZ n m 1) (upd ρ m v))
  (hk:nb.ok w' v (upd ρ m v)) (hst:nb.stb (kZ n m 1) (upd ρ m v))
  (hnew: ∀ x,bK v=some x→w.heap.size≤x∨ ∃ i k,aN wr i=some .gone∧aN h i=some k∧k.own=true∧bK (ρ i)=some x) :
  HS w0 Wr (upd ρ m v) (rT (oS h wr) m [nb]) (kZ n m 1) w':=by
 have hag:bZ n ρ (upd ρ m v):=fF ρ hm v
 have hold: ∀ i,n i→upd ρ m v i=ρ i:=fun i hi=>hag i hi
 have hlook: ∀ i b,aN (rT (oS h wr) m [nb]) i=some b→(i=m∧b=nb)∨(i≠m∧((aN wr i=some b∧ ∃ k,aN h i=some k∧k.own=true)∨(aN wr i=none∧aN h i=some b))):=fun i b hb=>by
  have hb:aN ((m,nb) :: oS h wr) i=some b:=hb
  simp only[aN] at hb
  split at hb
  ·rename_i he
   simp only[beq_iff_eq] at he
   simp only[Option.some.injEq] at hb
   exact .inl ⟨he.symm,hb.symm⟩
  ·rename_i he
   have hne:i≠m:=fun e=>he (by simp[e])
   rw[gS wr h i hwn] at hb
   split at hb
   ·rename_i c' hc'
    obtain⟨k,hk,hko,_⟩:=hwr i c' hc'
    rw[hk] at hb
    simp only[Option.map_some,Option.some.injEq] at hb
    subst hb
    exact .inr ⟨hne, .inl ⟨hc',k,hk,hko⟩⟩
   ·rename_i hc';exact .inr ⟨hne, .inr ⟨hc',hb⟩⟩
 have holdx: ∀ i b x,aN h i=some b→bK (ρ i)=some x→x < w.heap.size:=fun i b x hb hx=>Blk.block (hs.ok i b hb).2.1 hx
 have hkeep: ∀ i b,aN wr i=none→aN h i=some b→b.live=true→ ∀ x,bK (ρ i)=some x→w'.heap[x]? =w.heap[x]? :=fun i b hw hl hlv x hx=>by
  refine hb.block x (holdx i b x hl hx) fun⟨id,b1,g1,g2⟩=>?_
  obtain⟨p,hp⟩:=List.getElem?_of_mem g1
  have hlw:=eC hwn hp
  obtain⟨k,e7,e8,_⟩:=hwr id b1 hlw
  have hne:id≠i:=fun e=>by subst e;rw[hw] at hlw;cases hlw
  exact hs.sep id k i b e7 hl hne e8 hlv x g2 hx
 have hbef: ∀ i b,i≠m→aN (rT (oS h wr) m [nb]) i=some b→ ∃ k,aN h i=some k∧(b.own=true→k.own=true)∧(b.live=true→k.live=true)∧(aN wr i=some .gone→b= .gone):=fun i b hne hl=>by
  rcases hlook i b hl with ⟨he,_⟩ | ⟨_,⟨hw,k,hk,hko⟩ | ⟨hw,hl⟩⟩
  ·exact absurd he hne
  ·exact⟨k,hk,fun _=>hko,fun _=>Blk.live_own hko,fun e=>by rw[hw] at e;simpa using e⟩
  ·exact⟨b,hl,id,id,fun e=>by rw[hw] at e;cases e⟩
 exact {
  one:=fun i=>by unfold upd;split;exact hv;exact hs.one i
  ok:=fun i b hl=>by
   rcases hlook i b hl with ⟨rfl,rfl⟩ | ⟨hne,⟨hw,k,hk',_⟩ | ⟨hw,hl⟩⟩
   ·rw[dE];exact⟨.inr ⟨Nat.le_refl _,by omega⟩,hk,hst⟩
   ·obtain⟨k',e1,e2,e3,e4⟩:=hwr i b hw
    have hni:=(hs.ok i k hk').1
    rw[hold i hni]
    exact⟨.inl hni,e3,e4⟩
   ·obtain⟨g1,g2,g3⟩:=hs.ok i b hl
    rw[hold i g1]
    refine⟨.inl g1,?_,Blk.stb_move g3 hag fun _ hi=> .inl hi⟩
    by_cases hlv:b.live=true
    ·exact Blk.ok_move g3 hag (Blk.ok_of_block hb.size (fun x hx=>hkeep i b hw hl hlv x hx) g2)
    ·cases b with
     | gone=>exact fun x hx=>Nat.lt_of_lt_of_le (g2 x hx) hb.size
     | fix=>exact absurd rfl hlv
     | vec=>exact absurd rfl hlv
  sep:=fun i b j c hi hj hij ho hlv x hx hxj=>by
   by_cases him:i=m
   ·subst him
    rw[dE] at hx
    obtain⟨k,f1,f2,f3,f4⟩:=hbef j c (fun e=>hij e.symm) hj
    rw[hold j (hs.ok j k f1).1] at hxj
    rcases hnew x hx with h1 | ⟨i',k',g1,g2,g3,g4⟩
    ·have:=holdx j k x f1 hxj;omega
    ·by_cases e:i'=j
     ·subst e
      rw[f4 g1] at hlv
      cases hlv
     ·exact hs.sep i' k' j k g2 f1 e g3 (f3 hlv) x g4 hxj
   ·obtain⟨k,e1,e2,e3,e4⟩:=hbef i b him hi
    rw[hold i (hs.ok i k e1).1] at hx
    by_cases hjm:j=m
    ·subst hjm
     rw[dE] at hxj
     rcases hnew x hxj with h1 | ⟨i',k',g1,g2,g3,g4⟩
     ·have:=holdx i k x e1 hx;omega
     ·by_cases e:i'=i
      ·subst e
       rw[e4 g1] at ho
       cases ho
      ·exact hs.sep i k i' k' e1 g2 (fun e'=>e e'.symm) (e2 ho) (Blk.live_own g3) x hx g4
    ·obtain⟨k',f1,f2,f3,_⟩:=hbef j c hjm hj
     rw[hold j (hs.ok j k' f1).1] at hxj
     exact hs.sep i k j k' e1 f1 hij (e2 ho) (f3 hlv) x hx hxj
  wr:=fun i b x hi ho hx=>by
   by_cases him:i=m
   ·subst him
    rw[dE] at hx
    rcases hnew x hx with h1 | ⟨i',k',g1,g2,g3,g4⟩
    ·have:=hs.size;exact .inl (by omega)
    ·exact hs.wr i' k' x g2 g3 g4
   ·obtain⟨k,e1,e2,e3,e4⟩:=hbef i b him hi
    rw[hold i (hs.ok i k e1).1] at hx
    exact hs.wr i k x e1 (e2 ho) hx
  org:=fun i b x hi hlv hx=>by
   by_cases him:i=m
   ·subst him
    rw[dE] at hx
    rcases hnew x hx with h1 | ⟨i',k',g1,g2,g3,g4⟩
    ·have:=hs.size;exact .inl (by omega)
    ·exact hs.org i' k' x g2 (Blk.live_own g3) g4
   ·obtain⟨k,e1,e2,e3,e4⟩:=hbef i b him hi
    rw[hold i (hs.ok i k e1).1] at hx
    exact hs.org i k x e1 (e3 hlv) hx
  frame:=fun x h1 h2=>by
   have hnw: ¬ xB ρ wr x:=fun⟨id,b1,g1,g2⟩=>by
    obtain⟨p,hp⟩:=List.getElem?_of_mem g1
    obtain⟨k,e7,e8,_⟩:=hwr id b1 (eC hwn hp)
    rcases hs.wr id k x e7 e8 g2 with h3 | h3
    ·omega
    ·exact h2 h3
   rw[hb.block x (Nat.lt_of_lt_of_le h1 hs.size) hnw]
   exact hs.frame x h1 h2
  os:=hb.os.trans hs.os
  tape:=hb.tape.trans hs.tape
  output:=hb.output.trans hs.output
  size:=Nat.le_trans hs.size hb.size
  ag:=hs.ag.trans hag hs.inn
  inn:=fun i hi=> .inl (hs.inn i hi) }
end
section
variable {P:Program} {T:Nat→Option TI} {C:Nat→Option bU}
end
end Go.Eng
namespace Go.Eng
end Go.Eng
namespace Go.Eng
end Go.Eng

