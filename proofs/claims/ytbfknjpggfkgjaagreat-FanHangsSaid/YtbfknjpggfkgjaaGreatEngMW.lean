
import Derived.Test.YtbfknjpggfkgjaaGreatEngHL
import Derived.Scope
import Derived.IntWalk
import Derived.ProofKit
import Derived.ChangeSame
import Derived.Below
set_option linter.all false
set_option exponentiation.threshold 3000
namespace Go.Eng
section
variable {P:Program} {K:Cx} {w0:World} {Wr:jH}
def gI (P:Program) (K:Cx) (w0:World) (Wr:jH) (c:Code) (s:St) (k:Exit→St→Prop):Prop:=
 ∀ ρ n a w,Sat K w0 Wr ρ n s a w→(Code.loop c).wp P (Qk K w0 Wr k) a w
def vJ (P:Program) (c:Code) (Q:Exit→Act→World→Prop) (a:Act) (w:World):Prop:=
 ∀ (b:Frame) (k:List Item) (cs:List Frame), ∃ e a' w',Q e a' w'∧Arrives P (lone (b.at a (.code c :: .inLoop c :: k)) cs w) b k cs e a' w'
theorem vJ.wp {c:Code} {Q:Exit→Act→World→Prop} {a:Act} {w:World} (h:vJ P c Q a w):(Code.loop c).wp P Q a w:=
 fun b k cs=>let ⟨e,a',w',q,r⟩:=h b k cs;⟨e,a',w',q, .of_steps (.one step_loop) r⟩
theorem vJ.step {c:Code} {Q:Exit→Act→World→Prop} {a:Act} {w:World} (h:c.wp P (Exit.then (vJ P c Q) Q) a w):vJ P c Q a w:=by
 intro b k cs
 obtain⟨e,a₁,w₁,hq,harr⟩:=h b (.inLoop c :: k) cs
 cases e with
 | normal=>
  obtain⟨e₂,a₂,w₂,hq₂,harr₂⟩:=hq b k cs
  exact⟨e₂,a₂,w₂,hq₂, .of_steps (Steps.trans harr (.one step_inLoop)) harr₂⟩
 | exit id=>exact⟨_,a₁,w₁,hq, .pass (x:= .inLoop c) rfl (fun _ _=> .inl (by simp)) harr⟩
 | goto l=>exact⟨_,a₁,w₁,hq, .pass (x:= .inLoop c) rfl (fun _ _=> .inl (by simp)) harr⟩
 | ret=>exact⟨_,a₁,w₁,hq, .pass (x:= .inLoop c) rfl (fun _ _=> .inl (by simp)) harr⟩
 | panic ch=>exact⟨_,a₁,w₁,hq, .pass (x:= .inLoop c) rfl (fun _ _=> .inl (by simp)) harr⟩
 | outgrown=>exact⟨_,a₁,w₁,hq, .pass (x:= .inLoop c) rfl (fun _ _=> .inl (by simp)) harr⟩
theorem G6 (hA:K.A=aA) (hT:TOK P K.T) (hC:COK P K.C) (hm:P.follows .mixedOrders=true) (hL: ∀ c s k,K.loop c s k→gI P K w0 Wr c s k) (fuel:Nat) :
  (∀ (c:Code) (s:St) (k:Exit→St→Prop),run K fuel c s k→ ∀ ρ n a w,Sat K w0 Wr ρ n s a w→c.wp P (Qk K w0 Wr k) a w)∧
  (K.un.un=true→ ∀ (c:Code) (s:St) (k:Exit→St→Prop),run K fuel (.loop c) s k→ ∀ ρ n a w,Sat K w0 Wr ρ n s a w→vJ P c (Qk K w0 Wr k) a w):=by
 induction fuel with
 | zero=>exact⟨fun c s k h=>by simp[run] at h,fun _ c s k h=>by simp[run] at h⟩
 | succ fuel ih=>
  obtain⟨ih1,ih2⟩:=ih
  have hloop:K.un.un=true→ ∀ (c:Code) (s:St) (k:Exit→St→Prop),run K (fuel+1) (.loop c) s k→ ∀ ρ n a w,Sat K w0 Wr ρ n s a w→vJ P c (Qk K w0 Wr k) a w:=by
   intro hun c s k h ρ n a w hs
   simp only[run,hun] at h
   refine vJ.step (wp_mono (ih1 c s _ h ρ n a w hs) fun e a' w' ⟨s',ρ',n',hk,hs'⟩=>?_)
   cases e with
   | normal=>exact ih2 hun c s' k hk ρ' n' a' w' hs'
   | _=>exact⟨s',ρ',n',hk,hs'⟩
  refine⟨fun c s k h=>?_,hloop⟩
  intro ρ n a w hs
  cases c with
  | skip=>exact wp_skip ⟨s,ρ,n,h,hs⟩
  | region id ops draw=>
   cases draw with
   | true=>
    simp only[run] at h
    split at h
    ·exact jV hA hT hC hm (fun s' hk ρ n a w hs'=>⟨_,ρ,n,hk,fK hs'⟩) h (fun t e he=>(gO he).2) (p7 hs)
    ·rcases h with h | h
     ·unfold We at h
      split at h
      ·exact jV (K:=K.know _ true) hA hT hC hm (fun s' hk ρ n a w hs'=>⟨_,ρ,n,hk,fK (tI hs')⟩) h (fun t e he=>(gO he).2) (p7 (Am hs))
      ·rcases h with h | h
       ·exact jV (K:=(K.know _ true).know _ true) hA hT hC hm (fun s' hk ρ n a w hs'=>⟨_,ρ,n,hk,fK (tI (tI hs'))⟩) h (fun t e he=>(gO he).2) (p7 (Am (Am hs)))
       ·exact jV (K:=(K.know _ true).know _ false) hA hT hC hm (fun s' hk ρ n a w hs'=>⟨_,ρ,n,hk,fK (tI (tI hs'))⟩) h (fun t e he=>(gO he).2) (p7 (Am (Am hs)))
     ·unfold We at h
      split at h
      ·exact jV (K:=K.know _ false) hA hT hC hm (fun s' hk ρ n a w hs'=>⟨_,ρ,n,hk,fK (tI hs')⟩) h (fun t e he=>(gO he).2) (p7 (Am hs))
      ·rcases h with h | h
       ·exact jV (K:=(K.know _ false).know _ true) hA hT hC hm (fun s' hk ρ n a w hs'=>⟨_,ρ,n,hk,fK (tI (tI hs'))⟩) h (fun t e he=>(gO he).2) (p7 (Am (Am hs)))
       ·exact jV (K:=(K.know _ false).know _ false) hA hT hC hm (fun s' hk ρ n a w hs'=>⟨_,ρ,n,hk,fK (tI (tI hs'))⟩) h (fun t e he=>(gO he).2) (p7 (Am (Am hs)))
   | false=>
    exact wp_region_list (fD hA hT hC rfl (fun s' hk ρ n a w hs'=>⟨_,ρ,n,hk,fK hs'⟩) _ _ h ρ n a w hs)
  | seq x y=>
   refine wp_seq (wp_mono (ih1 x s _ h ρ n a w hs) fun e a' w' ⟨s',ρ',n',hk,hs'⟩=>?_)
   cases e with
   | normal=>exact ih1 y s' k hk ρ' n' a' w' hs'
   | _=>exact⟨s',ρ',n',hk,hs'⟩
  | cond c x y=>
   simp only[run] at h
   split at h
   ·rename_i hc
    have h1:=(bQ (gs:=[]) hA hs rfl hc).1
    exact wp_cond_true h1 (ih1 x s k h ρ n a w hs)
   ·rename_i hc
    have h1:=(bQ (gs:=[]) hA hs rfl hc).1
    exact wp_cond_false h1 (ih1 y s k h ρ n a w hs)
   ·rename_i z hc
    have h1:=(bQ (gs:=[]) hA hs rfl hc).1
    exact wp_cond_split (t:=z) h1 (fun e=>ih1 x s k (h.1 e) ρ n a w hs) (fun e=>ih1 y s k (h.2 e) ρ n a w hs)
   ·exact h.elim
  | block id c=>
   refine wp_block (wp_mono (ih1 c s _ h ρ n a w hs) fun e a' w' ⟨s',ρ',n',hk,hs'⟩=>?_)
   cases e with
   | exit id'=>
    simp only[Exit.inBlock]
    simp only at hk
    by_cases he:id'=id
    ·rw[if_pos he];rw[if_pos (by simpa using he)] at hk;exact⟨s',ρ',n',hk,hs'⟩
    ·rw[if_neg he];rw[if_neg (by simpa using he)] at hk;exact⟨s',ρ',n',hk,hs'⟩
   | _=>exact⟨s',ρ',n',hk,hs'⟩
  | exit id=>exact wp_exit ⟨s,ρ,n,h,hs⟩
  | ret=>exact wp_ret ⟨s,ρ,n,h,hs⟩
  | loop c=>
   cases hun:K.un.un with
   | true=>exact(hloop hun c s k h ρ n a w hs).wp
   | false=>
    simp only[run,hun] at h
    exact hL c s k h ρ n a w hs
  | _=>simp[run] at h
theorem rO (hA:K.A=aA) (hT:TOK P K.T) (hC:COK P K.C) (hm:P.follows .mixedOrders=true) (hL: ∀ c s k,K.loop c s k→gI P K w0 Wr c s k)
  (fuel:Nat) (c:Code) (s:St) (k:Exit→St→Prop) (h:run K fuel c s k): ∀ ρ n a w,Sat K w0 Wr ρ n s a w→c.wp P (Qk K w0 Wr k) a w:=
 (G6 hA hT hC hm hL fuel).1 c s k h
theorem yG {t:Nat} {v r:Value} {w:World} (h:(Instr.loadAt t v).run P w= .ok r w):(do loadVar t (← asAddr v):Sem Value).run P w= .ok r w:=by
 cases v with
 | pointer a=>
  cases a with
  | none=>simp[Instr.loadAt,Instr.sureAddr] at h
  | some a=>simpa [Instr.loadAt,Instr.sureAddr,asAddr] using h
 | _=>simp[Instr.loadAt,Instr.sureAddr] at h
def yP (tmps:Array Value):ResultVar→Sem Value
 | .tmp t=>pure (tmps.getD t undef)
 | .cell x t=>do loadVar t (← asAddr (tmps.getD x undef))
theorem tG (fn:Func) (tmps:Array Value):results fn tmps=(do let vs ← fn.results.mapM (yP tmps);pure (if h:vs.size=1 then vs[0] else .tuple vs)):=by
 unfold results
 have:(fun(r:ResultVar)=>match r with | .tmp t=>(pure (tmps.getD t undef):Sem Value) | .cell x t=>do loadVar t (← asAddr (tmps.getD x undef)))=yP tmps:=funext fun r=>by cases r <;> rfl
 rw[← this]
 rfl
theorem BF (hA:K.A=aA) (hT:TOK P K.T) {ρ:Rho} {n:Ids} {s:St} {a:Act} {w:World} (hs:Sat K w0 Wr ρ n s a w) {r:ResultVar} {v:CV} (h:QG K s r=some v) :
  (yP a.tmps r).run P w= .ok (v.den ρ) w∧iK n ρ v:=by
 cases r with
 | tmp t=>
  obtain⟨h1,h2⟩:=fL (gs:=[]) hA hs rfl h
  refine⟨?_,h2⟩
  simp only[yP,Sem.run_pure]
  have:a.eval (.tmp t)=a.tmps.getD t undef:=rfl
  rw[← this,h1]
 | cell x t=>
  simp only[QG] at h
  split at h
  ·rename_i p hp
   obtain⟨h1,h2⟩:=bQ (gs:=[]) hA hs rfl hp
   split at h
   ·rename_i u hu
    simp only[Option.some.injEq] at h
    subst h
    obtain⟨u',g1,_,_,g4⟩:=Dt (P:=P) (w:=w) hA hT hs.hs hu
    simp only[XV.c.injEq] at g1
    subst g1
    obtain⟨g5,g6⟩:=g4 fun b hb=>by simp at hb
    refine⟨?_,g6⟩
    have:a.tmps.getD x undef=p.den ρ:=h1
    simp only[yP]
    rw[this]
    exact yG g5
   ·simp at h
  ·simp at h
theorem tF (hA:K.A=aA) (hT:TOK P K.T) {ρ:Rho} {n:Ids} {s:St} {a:Act} {w:World} (hs:Sat K w0 Wr ρ n s a w): ∀ {l:List ResultVar} {vs:List CV},Mr K s l=some vs→
  (l.mapM (yP a.tmps)).run P w= .ok (vs.map (CV.den ρ)) w∧ ∀ v,v∈vs→iK n ρ v
 | [],vs,h=>by simp only[Mr,Option.some.injEq] at h;subst h;exact⟨by simp,fun v hv=>by simp at hv⟩
 | r :: l,vs,h=>by
  simp only[Mr] at h
  split at h
  ·rename_i v m hv hm
   simp only[Option.some.injEq] at h
   subst h
   obtain⟨h1,h2⟩:=BF hA hT hs hv
   obtain⟨h3,h4⟩:=tF hA hT hs hm
   refine⟨?_,fun u hu=>?_⟩
   ·rw[List.mapM_cons,Sem.run_bind,h1,Result.andThen_ok,Sem.run_bind,h3]
    rfl
   ·simp only[List.mem_cons] at hu
    rcases hu with rfl | hu
    ·exact h2
    ·exact h4 u hu
  ·simp at h
theorem BG (hA:K.A=aA) (hT:TOK P K.T) {ρ:Rho} {n:Ids} {s:St} {a:Act} {w:World} (hs:Sat K w0 Wr ρ n s a w) {fn:Func} {v:XV} (h:La K s fn.results.toList=some v) :
  (results fn a.tmps).run P w= .ok (v.den ρ) w∧nT n ρ v:=by
 have key: ∀ vs:List CV,Mr K s fn.results.toList=some vs→(fn.results.mapM (yP a.tmps)).run P w= .ok (vs.map (CV.den ρ)).toArray w∧ ∀ v,v∈vs→iK n ρ v:=by
  intro vs hvs
  obtain⟨h1,h2⟩:=tF hA hT hs hvs
  refine⟨?_,h2⟩
  rw[Array.mapM_eq_mapM_toList,Sem.run_map,h1]
  rfl
 unfold La at h
 split at h
 ·rename_i v' hv
  simp only[Option.some.injEq] at h
  subst h
  obtain⟨h1,h2⟩:=key _ hv
  refine⟨?_,h2 v' (List.mem_cons_self ..)⟩
  rw[tG,Sem.run_bind,h1]
  simp[XV.den]
 ·rename_i m hne hm
  simp only[Option.some.injEq] at h
  subst h
  obtain⟨h1,h2⟩:=key _ hm
  refine⟨?_,fun ρ' ha=>?_⟩
  ·rw[tG,Sem.run_bind,h1]
   have hl:(m.map (CV.den ρ)).toArray.size≠1:=by
    intro h
    simp only[List.size_toArray,List.length_map] at h
    obtain⟨x,hx⟩:=List.length_eq_one_iff.1 h
    rw[hx] at hm
    exact hne x hx
   simp only[Result.andThen_ok,Sem.run_pure]
   rw[dif_neg hl]
   rfl
  ·simp only[XV.den]
   congr 2
   exact List.map_congr_left fun x hx=>h2 x hx ρ' ha
 ·simp at h
theorem qR {t:Nat} {e:Ent} : ∀ {l:List CV} {m:Nat},(t,e)∈aiH m l→ ∃ i v,l[i]? =some v∧t=m+i∧e=⟨[], .c v⟩
 | [],_,h=>by simp[aiH] at h
 | v :: r,m,h=>by
  simp only[aiH,List.mem_cons,Prod.mk.injEq] at h
  rcases h with ⟨rfl,rfl⟩ | h
  ·exact⟨0,v,by simp,by simp,rfl⟩
  ·obtain⟨i,u,h1,h2,h3⟩:=qR h
   exact⟨i+1,u,by simpa using h1,by omega,h3⟩
theorem BJ (hA:K.A=aA) (hT:TOK P K.T) (hC:COK P K.C) (hm:P.follows .mixedOrders=true) {f:Nat} {fn:Func} (hf:P.funcs[f]? =some fn)
  {args:List CV} {heap:bT} {nid:Nat} {k:XV→bT→Prop} {w:World} (hL: ∀ c s k,K.loop c s k→gI P { K with N:=fn.ntmps } w Wr c s k) (h:G5 K fn args heap nid k)
  {ρ:Rho} {n:Ids} (hs:HS w Wr ρ heap n w) (hargs: ∀ v,v∈args→iK n ρ v) (hlt: ∀ i,n i→i < nid) (hN:args.length≤fn.ntmps) :
  Calls P f (args.map (CV.den ρ)).toArray w fun e w'=> ∃ v ρ' n' heap',k v heap'∧e= .returned (v.den ρ')∧nT n' ρ' v∧HS w Wr ρ' heap' n' w':=by
 unfold G5 at h
 split at h
 ·rename_i c hb
  refine calls_of_wp hf hb ?_
  have hS:Sat { K with N:=fn.ntmps } w Wr ρ n ⟨aiH 0 args,heap,nid⟩ { tmps:=(args.map (CV.den ρ)).toArray++Array.replicate (fn.ntmps - (args.map (CV.den ρ)).toArray.size) undef,defers:=[] } w:= {
   size:=by simp;omega
   defers:=rfl
   env:=fun t e he=>by
    obtain⟨i,v,h1,h2,rfl⟩:=qR he
    rw[Nat.zero_add] at h2
    subst h2
    have hlt':t < args.length:=kE h1
    refine⟨fun _=>⟨?_,hargs v (List.mem_of_getElem? h1)⟩,fun hf=>by simp[bG] at hf⟩
    rw[Array.getElem?_append_left (by simpa using hlt')]
    simp[h1,XV.den]
   hs:=hs
   lt:=hlt }
  refine wp_mono (rO (K:= { K with N:=fn.ntmps }) hA hT hC hm hL 1000 c _ _ h ρ n _ w hS) fun e a' w' ⟨s',ρ',n',hk,hs'⟩=>?_
  have fin:(match La { K with N:=fn.ntmps } s' fn.results.toList with | some v=>k v s'.heap | none=>False)→a'.defers=[]∧ ∃ v,(results fn a'.tmps).run P w'= .ok v w'∧ ∃ v', ∃ ρ' n' heap',k v' heap'∧Ending.returned v= .returned (v'.den ρ')∧nT n' ρ' v'∧HS w Wr ρ' heap' n' w':=by
   intro hk
   split at hk
   ·rename_i v hv
    obtain⟨h1,h2⟩:=BG (K:= { K with N:=fn.ntmps }) hA hT hs' hv
    exact⟨hs'.defers,_,h1,v,ρ',n',s'.heap,hk,rfl,h2,hs'.hs⟩
   ·exact hk.elim
  cases e with
  | normal=>exact fin hk
  | ret=>exact fin hk
  | _=>exact hk.elim
 ·exact h.elim
end
def NA:Ids:=fun _=>False
def PF:jH:=⟨fun _=>False,NA,vC,fun _=>False⟩
theorem HS.init (w:World):HS w PF vC [] NA w where
 one _:=rfl
 ok id b h:=by simp[aN] at h
 sep i b j c h:=by simp[aN] at h
 wr i b x h:=by simp[aN] at h
 org i b x h:=by simp[aN] at h
 frame _ _ _:=rfl
 os:=rfl
 tape:=rfl
 output:=rfl
 drawn:=Nat.le_refl _
 size:=Nat.le_refl _
 ag:=bZ.refl _ _
 inn _ h:=h
theorem HS.toBelow {w w':World} {Wr:jH} {ρ:Rho} {h:bT} {n:Ids} (hs:HS w Wr ρ h n w') (hw: ∀ x, ¬ Wr.wr x):Low w.heap.size w w':=
 ⟨hs.os,hs.tape,hs.output,hs.size,fun x hx=>hs.frame x hx (hw x),hs.drawn⟩
theorem qL {K K':Cx} (h:K.A=K'.A) (env:List (Nat×Ent)): ∀ gs,bG K env gs=bG K' env gs
 | []=>rfl
 |(t,b) :: r=>by
  have ih:=qL h env r
  unfold bG
  rw[h,ih]
theorem Sat.congr {K K':Cx} (hN:K.N=K'.N) (hA:K.A=K'.A) {w0:World} {Wr:jH} {ρ:Rho} {n:Ids} {s:St} {a:Act} {w:World} (hs:Sat K w0 Wr ρ n s a w):Sat K' w0 Wr ρ n s a w where
 size:=hs.size.trans hN
 defers:=hs.defers
 env t e he:=by
  have h:=hs.env t e he
  rw[qL hA] at h
  exact h
 hs:=hs.hs
 lt:=hs.lt
theorem gI.congr {P:Program} {K K':Cx} (hN:K.N=K'.N) (hA:K.A=K'.A) {w0:World} {Wr:jH} {c:Code} {s:St} {k:Exit→St→Prop} (h:gI P K w0 Wr c s k):gI P K' w0 Wr c s k:=
 fun ρ n a w hs=>wp_mono (h ρ n a w (hs.congr hN.symm hA.symm)) fun _ _ _ ⟨s',ρ',n',h1,h2⟩=>⟨s',ρ',n',h1,h2.congr hN hA⟩
def cx0 (N:Nat) (T:Nat→Option TI) (C:Nat→Option bU):Cx:=⟨N,aA,T,C,⟨false,none⟩,fun _ _ _=>False⟩
section
variable {P:Program} {T:Nat→Option TI} {C:Nat→Option bU}
theorem uE (hT:TOK P T) (hC:COK P C) (hm:P.follows .mixedOrders=true) {f:Nat} {fn:Func} (hf:P.funcs[f]? =some fn) {args:List CV} {heap:bT} {nid:Nat} {w:World} {Wr:jH}
  {ρ:Rho} {n:Ids} (hs:HS w Wr ρ heap n w) (hargs: ∀ v,v∈args→iK n ρ v) (hlt: ∀ i,n i→i < nid) (hN:args.length≤fn.ntmps) {R:XV→bT→Prop} {un:Md}
  (hrun: ∀ (A:Alg) (L:Code→St→(Exit→St→Prop)→Prop) (k:XV→bT→Prop),A=aA→(∀ c s k,gI P (cx0 fn.ntmps T C) w Wr c s k→L c s k)→(∀ v h,R v h→k v h)→G5 ⟨0,A,T,C,un,L⟩ fn args heap nid k) :
  Calls P f (args.map (CV.den ρ)).toArray w fun e w'=> ∃ v ρ' n' heap',R v heap'∧e= .returned (v.den ρ')∧nT n' ρ' v∧HS w Wr ρ' heap' n' w':=
 BJ (K:=⟨0,aA,T,C,un,fun c s k=>gI P (cx0 fn.ntmps T C) w Wr c s k⟩) (w:=w) (Wr:=Wr) rfl hT hC hm hf (fun c s k h=>gI.congr (K:=cx0 fn.ntmps T C) (K':=⟨fn.ntmps,aA,T,C,un,fun c s k=>gI P (cx0 fn.ntmps T C) w Wr c s k⟩) rfl rfl h)
  (hrun aA _ R rfl (fun _ _ _ h=>h) fun _ _ h=>h) hs hargs hlt hN
end
def Sc.lt (m:Nat):Sc→Bool
 | .hp id _=>decide (id < m)
 | .pe id _ _ _ _=>decide (id < m)
 | .hs id=>decide (id < m)
 | .ve id _ _ _=>decide (id < m)
 | .hw id _ _ _=>decide (id < m)
 | .ha id _ _ _ _ _=>decide (id < m)
 | .hm id=>decide (id < m)
 | .fn _ caps=>caps.all fun c=>decide (c.1 < m)
 | _=>true
def ltL (m:Nat):List At→Bool
 | []=>true
 | .s x :: r=>x.lt m&&ltL m r
 | _ :: r=>ltL m r
def CV.lt (m:Nat):CV→Bool
 | .s x=>x.lt m
 | .g l=>ltL m l
def XV.lt (m:Nat):XV→Bool
 | .c v=>v.lt m
 | .t l=>l.all fun v=>v.lt m
def Blk.lt (m:Nat):Blk→Bool
 | .fix _ l=>ltL m l
 | .vec _ _ _=>true
 | .gone=>true
theorem Sc.lt_den {m:Nat} {x:Sc} (h:x.lt m=true) {ρ ρ':Rho} (ha:bZ (fun i=>i < m) ρ ρ'):x.den ρ'=x.den ρ:=by
 cases x with
 | hp id off=>simp only[Sc.lt,decide_eq_true_eq] at h;simp only[Sc.den];rw[ha id h]
 | pe id b e i off=>simp only[Sc.lt,decide_eq_true_eq] at h;simp only[Sc.den];rw[ha id h]
 | hs id=>simp only[Sc.lt,decide_eq_true_eq] at h;simp only[Sc.den];rw[ha id h]
 | ve id e i off=>simp only[Sc.lt,decide_eq_true_eq] at h;simp only[Sc.den];rw[ha id h]
 | hw id e i off=>simp only[Sc.lt,decide_eq_true_eq] at h;simp only[Sc.den];rw[ha id h]
 | ha id e f i off c=>simp only[Sc.lt,decide_eq_true_eq] at h;simp only[Sc.den];rw[ha id h]
 | hm id=>simp only[Sc.lt,decide_eq_true_eq] at h;simp only[Sc.den];rw[ha id h]
 | fn f caps=>
  simp only[Sc.lt,List.all_eq_true,decide_eq_true_eq] at h
  simp only[Sc.den]
  congr 2
  exact List.map_congr_left fun c hc=>by rw[ha c.1 (h c hc)]
 | _=>rfl
theorem mZ {m:Nat} {ρ ρ':Rho} (ha:bZ (fun i=>i < m) ρ ρ'): ∀ {l:List At},ltL m l=true→aI ρ' l=aI ρ l
 | [],_=>rfl
 | a :: r,h=>by
  have hc:a.cells ρ'=a.cells ρ∧ltL m r=true:=by
   cases a with
   | s x=>simp only[ltL,Bool.and_eq_true] at h;exact⟨by simp[At.cells,Sc.lt_den h.1 ha],h.2⟩
   | _=>exact⟨rfl,h⟩
  simp only[aI]
  rw[hc.1,mZ ha hc.2]
theorem CV.lt_den {m:Nat} {x:CV} (h:x.lt m=true) {ρ ρ':Rho} (ha:bZ (fun i=>i < m) ρ ρ'):x.den ρ'=x.den ρ:=by
 cases x with
 | s x=>exact Sc.lt_den h ha
 | g l=>simp only[CV.den];rw[mZ ha h]
theorem XV.lt_den {m:Nat} {x:XV} (h:x.lt m=true) {ρ ρ':Rho} (ha:bZ (fun i=>i < m) ρ ρ'):x.den ρ'=x.den ρ:=by
 cases x with
 | c x=>exact CV.lt_den h ha
 | t l=>
  simp only[XV.lt,List.all_eq_true] at h
  simp only[XV.den]
  congr 2
  exact List.map_congr_left fun c hc=>CV.lt_den (h c hc) ha
def Fi (env:List (Nat×Ent)):List (Nat×Ent)→Prop
 | []=>True
 |(t,e') :: r=>(match aN env t with
  | some e=>e.gs=[]∧e'.gs=[]∧ ∀ ρ,e.v.den ρ=e'.v.den ρ
  | none=>False)∧Fi env r
def i5:Blk→Blk→Prop
 | .fix o l, .fix o' l'=>o=o'∧bO l=bO l'∧ ∀ ρ,aI ρ l=aI ρ l'
 | .vec o k l, .vec o' k' l'=>o=o'∧l.length=l'.length∧k.esz=k'.esz∧k.flat l=k'.flat l'∧(l=[]→l'=[])
 | _,_=>False
def y8 (h:bT):bT→Prop
 | []=>True
 |(id,b') :: r=>(match aN h id with
  | some b=>i5 b b'
  | none=>False)∧y8 h r
def Du (m:Nat):List (Nat×Ent)→Bool
 | []=>true
 |(_,e) :: r=>e.v.lt m&&Du m r
def v6 (m:Nat):bT→Bool
 | []=>true
 |(id,b) :: r=>decide (id < m)&&b.lt m&&v6 m r
structure LeS (s s':St):Prop where
 env:Fi s.env s'.env
 heap:y8 s.heap s'.heap
 lte:Du s'.nid s'.env=true
 lth:v6 s'.nid s'.heap=true
theorem vI {env:List (Nat×Ent)} {t:Nat} {e':Ent} : ∀ {env':List (Nat×Ent)},Fi env env'→(t,e')∈env'→ ∃ e,(t,e)∈env∧e.gs=[]∧e'.gs=[]∧ ∀ ρ,e.v.den ρ=e'.v.den ρ
 | [],_,h=>by simp at h
 |(j,f) :: r,h,hm=>by
  simp only[Fi] at h
  simp only[List.mem_cons,Prod.mk.injEq] at hm
  rcases hm with ⟨rfl,rfl⟩ | hm
  ·have h1:=h.1
   split at h1
   ·rename_i e hl;exact⟨e,dD hl,h1⟩
   ·exact h1.elim
  ·exact vI h.2 hm
theorem fS {h:bT} {id:Nat} {b':Blk} : ∀ {h':bT},y8 h h'→aN h' id=some b'→ ∃ b,aN h id=some b∧i5 b b'
 | [],_,hl=>by simp[aN] at hl
 |(j,c) :: r,hh,hl=>by
  simp only[y8] at hh
  simp only[aN] at hl
  split at hl
  ·rename_i hj
   simp only[beq_iff_eq] at hj
   simp only[Option.some.injEq] at hl
   subst hj hl
   have h1:=hh.1
   split at h1
   ·rename_i b hb;exact⟨b,hb,h1⟩
   ·exact h1.elim
  ·exact fS hh.2 hl
theorem qW {m t:Nat} {e:Ent} : ∀ {env:List (Nat×Ent)},Du m env=true→(t,e)∈env→e.v.lt m=true
 | [],_,h=>by simp at h
 |(j,f) :: r,h,hm=>by
  simp only[Du,Bool.and_eq_true] at h
  simp only[List.mem_cons,Prod.mk.injEq] at hm
  rcases hm with ⟨_,rfl⟩ | hm
  ·exact h.1
  ·exact qW h.2 hm
theorem amO {m id:Nat} {b:Blk} : ∀ {h:bT},v6 m h=true→aN h id=some b→id < m∧b.lt m=true
 | [],_,hl=>by simp[aN] at hl
 |(j,c) :: r,hh,hl=>by
  simp only[v6,Bool.and_eq_true,decide_eq_true_eq] at hh
  simp only[aN] at hl
  split at hl
  ·rename_i hj
   simp only[beq_iff_eq] at hj
   simp only[Option.some.injEq] at hl
   subst hj hl
   exact hh.1
  ·exact amO hh.2 hl
theorem i5.own {b b':Blk} (h:i5 b b'):b.own=b'.own:=by
 cases b <;> cases b' <;> simp only[i5] at h
 ·exact h.1
 ·exact h.1
theorem i5.live {b b':Blk} (h:i5 b b'):b.live=b'.live:=by
 cases b <;> cases b' <;> simp only[i5] at h <;> rfl
theorem i5.ok {b b':Blk} (h:i5 b b') {w:World} {v:Value} {ρ:Rho} (hk:b.ok w v ρ):b'.ok w v ρ:=by
 cases b with
 | fix o l=>
  cases b' with
  | fix o' l'=>
   obtain⟨rfl,h2,h3⟩:=h
   obtain⟨b,o',rfl,hb,hr,ht⟩:=hk
   exact⟨b,o',rfl,hb,by rw[← h3 ρ];exact hr,fun e=>by rw[← h2];exact ht e⟩
  | vec=>exact h.elim
  | gone=>exact h.elim
 | gone=>exact h.elim
 | vec o k l=>
  cases b' with
  | fix=>exact h.elim
  | gone=>exact h.elim
  | vec o' k' l'=>
   obtain⟨rfl,h2,h3,h4,h5⟩:=h
   obtain⟨base,cap,rfl,hc,hm⟩:=hk
   refine⟨base,cap,by rw[h2],by omega,?_⟩
   cases base with
   | none=>exact⟨h5 hm.1,hm.2⟩
   | some a=>
    obtain⟨b,o',rfl,hb,hr,ht⟩:=hm
    exact⟨b,o',rfl,hb,by rw[← h4];exact hr,fun e=>by rw[← h3];exact ht e⟩
theorem LeS.sat {K:Cx} {s s':St} (h:LeS s s') {w0:World} {Wr:jH} (hb: ∀ i,Wr.ids i→i < s'.nid) {ρ:Rho} {n:Ids} {a:Act} {w:World} (hs:Sat K w0 Wr ρ n s a w) :
  Sat K w0 Wr ρ (fun i=>i < s'.nid) s' a w where
 size:=hs.size
 defers:=hs.defers
 env t e' he:=by
  obtain⟨e,h1,h2,h3,h4⟩:=vI h.env he
  have h5:=hs.env t e h1
  rw[h2] at h5
  rw[h3]
  refine⟨fun _=>⟨by rw[← h4];exact(h5.1 rfl).1,fun ρ' ha=>XV.lt_den (qW h.lte he) ha⟩,fun hf=>by simp[bG] at hf⟩
 hs:= {
  one:=hs.hs.one
  ok:=fun id b' hl=>by
   obtain⟨b,h1,h2⟩:=fS h.heap hl
   obtain⟨h3,h4⟩:=amO h.lth hl
   refine⟨h3,h2.ok (hs.hs.ok id b h1).2.1,?_⟩
   cases b' with
   | fix o l=>exact fun ρ' ha=>mZ ha h4
   | vec=>trivial
   | gone=>trivial
  sep:=fun i b j c hi hj hij ho hlv=>by
   obtain⟨b1,h1,h2⟩:=fS h.heap hi
   obtain⟨c1,h3,h4⟩:=fS h.heap hj
   exact hs.hs.sep i b1 j c1 h1 h3 hij (by rw[h2.own];exact ho) (by rw[h4.live];exact hlv)
  wr:=fun i b x hi ho=>by
   obtain⟨b1,h1,h2⟩:=fS h.heap hi
   exact hs.hs.wr i b1 x h1 (by rw[h2.own];exact ho)
  org:=fun i b x hi ho=>by
   obtain⟨b1,h1,h2⟩:=fS h.heap hi
   exact hs.hs.org i b1 x h1 (by rw[h2.live];exact ho)
  frame:=hs.hs.frame
  os:=hs.hs.os
  tape:=hs.hs.tape
  output:=hs.hs.output
  drawn:=hs.hs.drawn
  size:=hs.hs.size
  ag:=hs.hs.ag
  inn:=hb }
 lt i hi:=hi
theorem aQ {P:Program} {N:Nat} {T:Nat→Option TI} {C:Nat→Option bU} {w0:World} {Wr:jH} (hT:TOK P T) (hC:COK P C) (hm:P.follows .mixedOrders=true) {c:Code} {s:St} {k:Exit→St→Prop}
  {α:Type} (head:α→St) (inv:α→Prop) (μ:α→Nat) (x0:α) (h0:inv x0) (hle:LeS s (head x0)) (hb: ∀ x i,Wr.ids i→i < (head x).nid) {un:Md}
  (round: ∀ x,inv x→ ∀ (A:Alg) (L:Code→St→(Exit→St→Prop)→Prop) (k':Exit→St→Prop),A=aA→(∀ c s k,gI P (cx0 N T C) w0 Wr c s k→L c s k)→
   (∀ s' x',inv x'→μ x' < μ x→LeS s' (head x')→k' .normal s')→(∀ id s',k (.exit id) s'→k' (.exit id) s')→(∀ s',k .ret s'→k' .ret s')→run ⟨N,A,T,C,un,L⟩ 1000 c (head x) k') :
  gI P (cx0 N T C) w0 Wr c s k:=by
 intro ρ n a w hs b kk cs
 have key: ∀ m x a w ρ n,μ x=m→inv x→Sat (cx0 N T C) w0 Wr ρ n (head x) a w→
   ∃ e a' w',Qk (cx0 N T C) w0 Wr k e a' w'∧Arrives P (lone (b.at a (.code c :: .inLoop c :: kk)) cs w) b kk cs e a' w':=by
  intro m
  induction m using Nat.strongRecOn with
  | _ m ih=>
   intro x a w ρ n hn hI hsat
   let K1:Cx:=⟨N,aA,T,C,un,fun c s k=>gI P (cx0 N T C) w0 Wr c s k⟩
   have hr:=round x hI aA (fun c s k=>gI P (cx0 N T C) w0 Wr c s k) (fun e s'=>match e with
    | .normal=> ∃ x',inv x'∧μ x' < μ x∧LeS s' (head x')
    | e=>k e s') rfl (fun _ _ _ h=>h) (fun s' x' h1 h2 h3=>⟨x',h1,h2,h3⟩) (fun _ _ h=>h) (fun _ h=>h)
   have hw:=rO (K:=K1) rfl hT hC hm (fun c s k h=>gI.congr (K:=cx0 N T C) (K':=K1) rfl rfl h) 1000 c (head x) _ hr ρ n a w (Sat.congr (K:=cx0 N T C) (K':=K1) rfl rfl hsat)
   obtain⟨e,a₁,w₁,⟨s',ρ',n',hk,hs'⟩,harr⟩:=hw b (.inLoop c :: kk) cs
   have hs'':=Sat.congr (K:=K1) (K':=cx0 N T C) rfl rfl hs'
   cases e with
   | normal=>
    obtain⟨x',h1,h2,h3⟩:=hk
    obtain⟨e₂,a₂,w₂,hq₂,harr₂⟩:=ih (μ x') (hn ▸ h2) x' a₁ w₁ ρ' (fun i=>i < (head x').nid) rfl h1 (h3.sat (hb x') hs'')
    exact⟨e₂,a₂,w₂,hq₂, .of_steps (Steps.trans harr (.one step_inLoop)) harr₂⟩
   | exit id=>exact⟨_,a₁,w₁,⟨s',ρ',n',hk,hs''⟩, .pass (x:= .inLoop c) rfl (fun _ _=> .inl (by simp)) harr⟩
   | goto l=>exact⟨_,a₁,w₁,⟨s',ρ',n',hk,hs''⟩, .pass (x:= .inLoop c) rfl (fun _ _=> .inl (by simp)) harr⟩
   | ret=>exact⟨_,a₁,w₁,⟨s',ρ',n',hk,hs''⟩, .pass (x:= .inLoop c) rfl (fun _ _=> .inl (by simp)) harr⟩
   | panic ch=>exact⟨_,a₁,w₁,⟨s',ρ',n',hk,hs''⟩, .pass (x:= .inLoop c) rfl (fun _ _=> .inl (by simp)) harr⟩
   | outgrown=>exact⟨_,a₁,w₁,⟨s',ρ',n',hk,hs''⟩, .pass (x:= .inLoop c) rfl (fun _ _=> .inl (by simp)) harr⟩
 obtain⟨e,a',w',hq,harr⟩:=key _ x0 a w ρ _ rfl h0 (hle.sat (hb x0) hs)
 exact⟨e,a',w',hq, .of_steps (.one step_loop) harr⟩
def Bm (f:List (Nat×Sc)) (ρ:Rho):Rho:=fun i=>match aN f i with
 | some x=>x.den ρ
 | none=>ρ i
def tgt (f:List (Nat×Sc)) (i:Nat):Option Nat:=match aN f i with
 | some (.hs j)=>some j
 | some (.hp j 0)=>some j
 | some _=>none
 | none=>some i
def okH (f:List (Nat×Sc)) (B:Nat):Bool:=f.all fun p=>decide (B≤p.1)&&match p.2 with
 | .hs _=>true
 | .hp _ 0=>true
 | .nils=>true
 | _=>false
def zA (f:List (Nat×Sc)):bT→Bool
 | []=>true
 |(i,_) :: r=>(match tgt f i with
  | some p=>r.all fun x=>tgt f x.1 != some p
  | none=>true)&&zA f r
def y7 (f:List (Nat×Sc)) (env:List (Nat×Ent)):List (Nat×Ent)→Prop
 | []=>True
 |(t,e') :: r=>(match aN env t with
  | some e=>e.gs=[]∧e'.gs=[]∧ ∀ ρ,e.v.den ρ=e'.v.den (Bm f ρ)
  | none=>False)∧y7 f env r
def Vj (f:List (Nat×Sc)):Blk→Blk→Prop
 | .fix o l, .fix o' l'=>o=o'∧bO l=bO l'∧ ∀ ρ,aI ρ l=aI (Bm f ρ) l'
 | .vec o k l, .vec o' k' l'=>o=o'∧l.length=l'.length∧k.esz=k'.esz∧k.flat l=k'.flat l'∧(l=[]→l'=[])
 | _,_=>False
def tQ (f:List (Nat×Sc)) (h:bT):bT→Prop
 | []=>True
 |(id,b') :: r=>(match tgt f id with
  | some j=>match aN h j with
   | some b=>Vj f b b'
   | none=>False
  | none=>match b' with
   | .vec _ _ l=>l=[]
   | _=>False)∧tQ f h r
structure LeR (B:Nat) (s s':St) (f:List (Nat×Sc)):Prop where
 env:y7 f s.env s'.env
 heap:tQ f s.heap s'.heap
 lte:Du s'.nid s'.env=true
 lth:v6 s'.nid s'.heap=true
 ok:okH f B=true
 apart:zA f s'.heap=true
theorem sA {f:List (Nat×Sc)} {env:List (Nat×Ent)} {t:Nat} {e':Ent} : ∀ {env':List (Nat×Ent)},y7 f env env'→(t,e')∈env'→ ∃ e,(t,e)∈env∧e.gs=[]∧e'.gs=[]∧ ∀ ρ,e.v.den ρ=e'.v.den (Bm f ρ)
 | [],_,h=>by simp at h
 |(j,x) :: r,h,hm=>by
  simp only[y7] at h
  simp only[List.mem_cons,Prod.mk.injEq] at hm
  rcases hm with ⟨rfl,rfl⟩ | hm
  ·have h1:=h.1
   split at h1
   ·rename_i e hl;exact⟨e,dD hl,h1⟩
   ·exact h1.elim
  ·exact sA h.2 hm
theorem fB {f:List (Nat×Sc)} {h:bT} {id:Nat} {b':Blk} : ∀ {h':bT},tQ f h h'→aN h' id=some b'→
  (∃ j b,tgt f id=some j∧aN h j=some b∧Vj f b b')∨(tgt f id=none∧ ∃ o k,b'= .vec o k [])
 | [],_,hl=>by simp[aN] at hl
 |(j,c) :: r,hh,hl=>by
  simp only[tQ] at hh
  simp only[aN] at hl
  split at hl
  ·rename_i hj
   simp only[beq_iff_eq] at hj
   simp only[Option.some.injEq] at hl
   subst hj hl
   have h1:=hh.1
   split at h1
   ·rename_i q hq
    split at h1
    ·rename_i b hb;exact .inl ⟨q,b,hq,hb,h1⟩
    ·exact h1.elim
   ·rename_i hq
    split at h1
    ·subst h1;exact .inr ⟨hq,_,_,rfl⟩
    ·exact h1.elim
  ·exact fB hh.2 hl
theorem Vj.own {f:List (Nat×Sc)} {b b':Blk} (h:Vj f b b'):b.own=b'.own:=by
 cases b <;> cases b' <;> simp only[Vj] at h
 ·exact h.1
 ·exact h.1
theorem Vj.live {f:List (Nat×Sc)} {b b':Blk} (h:Vj f b b'):b.live=b'.live:=by
 cases b <;> cases b' <;> simp only[Vj] at h <;> rfl
theorem Vj.ok {f:List (Nat×Sc)} {b b':Blk} (h:Vj f b b') {w:World} {v:Value} {ρ:Rho} (hk:b.ok w v ρ):b'.ok w v (Bm f ρ):=by
 cases b with
 | fix o l=>
  cases b' with
  | fix o' l'=>
   obtain⟨rfl,h2,h3⟩:=h
   obtain⟨b,o',rfl,hb,hr,ht⟩:=hk
   exact⟨b,o',rfl,hb,by rw[← h3 ρ];exact hr,fun e=>by rw[← h2];exact ht e⟩
  | vec=>exact h.elim
  | gone=>exact h.elim
 | gone=>exact h.elim
 | vec o k l=>
  cases b' with
  | fix=>exact h.elim
  | gone=>exact h.elim
  | vec o' k' l'=>
   obtain⟨rfl,h2,h3,h4,h5⟩:=h
   obtain⟨base,cap,rfl,hc,hm⟩:=hk
   refine⟨base,cap,by rw[h2],by omega,?_⟩
   cases base with
   | none=>exact⟨h5 hm.1,hm.2⟩
   | some a=>
    obtain⟨b,o',rfl,hb,hr,ht⟩:=hm
    exact⟨b,o',rfl,hb,by rw[← h4];exact hr,fun e=>by rw[← h3];exact ht e⟩
theorem sC {f:List (Nat×Sc)} {i j p:Nat} {b c:Blk} (hij:i≠j) (hp:tgt f i=some p): ∀ {h:bT},zA f h=true→(i,b)∈h→(j,c)∈h→tgt f j≠some p
 | [],_,hi,_=>by simp at hi
 |(q,d) :: r,h,hi,hj=>by
  simp only[zA,Bool.and_eq_true] at h
  simp only[List.mem_cons,Prod.mk.injEq] at hi hj
  rcases hi with ⟨rfl,rfl⟩ | hi
  ·rcases hj with ⟨rfl,_⟩ | hj
   ·exact absurd rfl hij
   ·have h1:=h.1
    rw[hp] at h1
    have:=List.all_eq_true.1 h1 _ hj
    simpa using this
  ·rcases hj with ⟨rfl,rfl⟩ | hj
   ·intro hq
    have h1:=h.1
    rw[hq] at h1
    have:=List.all_eq_true.1 h1 _ hi
    simp[hp] at this
   ·exact sC hij hp h.2 hi hj
theorem fU (v:Value):cF v 0=v:=by
 unfold cF
 split
 ·simp[Addr.add]
 ·rfl
theorem XD {f:List (Nat×Sc)} {B i j:Nat} (hok:okH f B=true) (h:tgt f i=some j) (ρ:Rho):Bm f ρ i=ρ j:=by
 unfold tgt at h
 unfold Bm
 split at h
 ·rename_i q hq;rw[hq];simp only[Option.some.injEq] at h;subst h;rfl
 ·rename_i q hq;rw[hq];simp only[Option.some.injEq] at h;subst h;exact fU _
 ·cases h
 ·rename_i hq;rw[hq];simp only[Option.some.injEq] at h;subst h;rfl
theorem oQ {f:List (Nat×Sc)} {B i:Nat} (hok:okH f B=true) (h:tgt f i=none) (ρ:Rho):Bm f ρ i= .slice none 0 0:=by
 unfold tgt at h
 split at h <;> try cases h
 rename_i y hy1 hy2 hq
 have:=List.all_eq_true.1 hok _ (dD hq)
 simp only[Bool.and_eq_true] at this
 have h2:=this.2
 split at h2
 ·rename_i j;exact absurd rfl (hy1 j)
 ·rename_i j;exact absurd rfl (hy2 j)
 ·unfold Bm;rw[hq];rfl
 ·cases h2
theorem LeR.sat {K:Cx} {B:Nat} {s s':St} {f:List (Nat×Sc)} (h:LeR B s s' f) {w0:World} {Wr:jH} (hB: ∀ i,Wr.ids i→i < B) (hb:B≤s'.nid) {ρ:Rho} {n:Ids} {a:Act} {w:World} (hs:Sat K w0 Wr ρ n s a w) :
  Sat K w0 Wr (Bm f ρ) (fun i=>i < s'.nid) s' a w where
 size:=hs.size
 defers:=hs.defers
 env t e' he:=by
  obtain⟨e,h1,h2,h3,h4⟩:=sA h.env he
  have h5:=hs.env t e h1
  rw[h2] at h5
  rw[h3]
  refine⟨fun _=>⟨by rw[← h4];exact(h5.1 rfl).1,fun ρ' ha=>XV.lt_den (qW h.lte he) ha⟩,fun hf=>by simp[bG] at hf⟩
 hs:= {
  one:=fun i=>by
   cases ht:tgt f i with
   | some j=>rw[XD h.ok ht];exact hs.hs.one j
   | none=>rw[oQ h.ok ht];rfl
  ok:=fun id b' hl=>by
   obtain⟨h3,h4⟩:=amO h.lth hl
   refine⟨h3,?_,?_⟩
   ·rcases fB h.heap hl with ⟨j,b,ht,h1,h2⟩ | ⟨ht,o,k,rfl⟩
    ·rw[XD h.ok ht]
     exact h2.ok (hs.hs.ok j b h1).2.1
    ·rw[oQ h.ok ht]
     exact⟨none,0,rfl,Nat.le_refl _,rfl,rfl⟩
   ·cases b' with
    | fix o l=>exact fun ρ' ha=>mZ ha h4
    | vec=>trivial
    | gone=>trivial
  sep:=fun i b j c hi hj hij ho hlv x hx=>by
   rcases fB h.heap hi with ⟨p,b1,ht,h1,h2⟩ | ⟨ht,o,k,rfl⟩
   ·rcases fB h.heap hj with ⟨q,c1,ht2,h3,h4⟩ | ⟨ht2,o,k,rfl⟩
    ·rw[XD h.ok ht] at hx
     rw[XD h.ok ht2]
     refine hs.hs.sep p b1 q c1 h1 h3 (fun e=>?_) (by rw[h2.own];exact ho) (by rw[h4.live];exact hlv) x hx
     subst e
     exact sC hij ht h.apart (dD hi) (dD hj) ht2
    ·rw[oQ h.ok ht2]
     intro hh;cases hh
   ·rw[oQ h.ok ht] at hx;cases hx
  wr:=fun i b x hi ho hx=>by
   rcases fB h.heap hi with ⟨p,b1,ht,h1,h2⟩ | ⟨ht,o,k,rfl⟩
   ·rw[XD h.ok ht] at hx
    exact hs.hs.wr p b1 x h1 (by rw[h2.own];exact ho) hx
   ·rw[oQ h.ok ht] at hx;cases hx
  org:=fun i b x hi ho hx=>by
   rcases fB h.heap hi with ⟨p,b1,ht,h1,h2⟩ | ⟨ht,o,k,rfl⟩
   ·rw[XD h.ok ht] at hx
    exact hs.hs.org p b1 x h1 (by rw[h2.live];exact ho) hx
   ·rw[oQ h.ok ht] at hx;cases hx
  frame:=hs.hs.frame
  os:=hs.hs.os
  tape:=hs.hs.tape
  output:=hs.hs.output
  drawn:=hs.hs.drawn
  size:=hs.hs.size
  ag:=fun i hi=>by
   have hn:aN f i=none:=by
    cases hq:aN f i with
    | none=>rfl
    | some y=>
     have:=List.all_eq_true.1 h.ok _ (dD hq)
     simp only[Bool.and_eq_true,decide_eq_true_eq] at this
     have:=hB i hi
     omega
   have e:Bm f ρ i=ρ i:=by unfold Bm;rw[hn]
   rw[e]
   exact hs.hs.ag i hi
  inn:=fun i hi=>by have:=hB i hi;show i < s'.nid;omega }
 lt i hi:=hi
theorem gM {P:Program} {N:Nat} {T:Nat→Option TI} {C:Nat→Option bU} {w0:World} {Wr:jH} (hT:TOK P T) (hC:COK P C) (hm:P.follows .mixedOrders=true) {c:Code} {s:St} {k:Exit→St→Prop} (B:Nat) (hB: ∀ i,Wr.ids i→i < B)
  {α:Type} (head:α→St) (inv:α→Prop) (μ:α→Nat) (x0:α) (h0:inv x0) (f0:List (Nat×Sc)) (hle:LeR B s (head x0) f0) (hb: ∀ x,B≤(head x).nid) {un:Md}
  (round: ∀ x,inv x→ ∀ (A:Alg) (L:Code→St→(Exit→St→Prop)→Prop) (k':Exit→St→Prop),A=aA→(∀ c s k,gI P (cx0 N T C) w0 Wr c s k→L c s k)→
   (∀ s' x' f,inv x'→μ x' < μ x→LeR B s' (head x') f→k' .normal s')→(∀ id s',k (.exit id) s'→k' (.exit id) s')→(∀ s',k .ret s'→k' .ret s')→run ⟨N,A,T,C,un,L⟩ 1000 c (head x) k') :
  gI P (cx0 N T C) w0 Wr c s k:=by
 intro ρ n a w hs b kk cs
 have key: ∀ m x a w ρ n,μ x=m→inv x→Sat (cx0 N T C) w0 Wr ρ n (head x) a w→
   ∃ e a' w',Qk (cx0 N T C) w0 Wr k e a' w'∧Arrives P (lone (b.at a (.code c :: .inLoop c :: kk)) cs w) b kk cs e a' w':=by
  intro m
  induction m using Nat.strongRecOn with
  | _ m ih=>
   intro x a w ρ n hn hI hsat
   let K1:Cx:=⟨N,aA,T,C,un,fun c s k=>gI P (cx0 N T C) w0 Wr c s k⟩
   have hr:=round x hI aA (fun c s k=>gI P (cx0 N T C) w0 Wr c s k) (fun e s'=>match e with
    | .normal=> ∃ x' f,inv x'∧μ x' < μ x∧LeR B s' (head x') f
    | e=>k e s') rfl (fun _ _ _ h=>h) (fun s' x' f h1 h2 h3=>⟨x',f,h1,h2,h3⟩) (fun _ _ h=>h) (fun _ h=>h)
   have hw:=rO (K:=K1) rfl hT hC hm (fun c s k h=>gI.congr (K:=cx0 N T C) (K':=K1) rfl rfl h) 1000 c (head x) _ hr ρ n a w (Sat.congr (K:=cx0 N T C) (K':=K1) rfl rfl hsat)
   obtain⟨e,a₁,w₁,⟨s',ρ',n',hk,hs'⟩,harr⟩:=hw b (.inLoop c :: kk) cs
   have hs'':=Sat.congr (K:=K1) (K':=cx0 N T C) rfl rfl hs'
   cases e with
   | normal=>
    obtain⟨x',f,h1,h2,h3⟩:=hk
    obtain⟨e₂,a₂,w₂,hq₂,harr₂⟩:=ih (μ x') (hn ▸ h2) x' a₁ w₁ (Bm f ρ') (fun i=>i < (head x').nid) rfl h1 (h3.sat hB (hb x') hs'')
    exact⟨e₂,a₂,w₂,hq₂, .of_steps (Steps.trans harr (.one step_inLoop)) harr₂⟩
   | exit id=>exact⟨_,a₁,w₁,⟨s',ρ',n',hk,hs''⟩, .pass (x:= .inLoop c) rfl (fun _ _=> .inl (by simp)) harr⟩
   | goto l=>exact⟨_,a₁,w₁,⟨s',ρ',n',hk,hs''⟩, .pass (x:= .inLoop c) rfl (fun _ _=> .inl (by simp)) harr⟩
   | ret=>exact⟨_,a₁,w₁,⟨s',ρ',n',hk,hs''⟩, .pass (x:= .inLoop c) rfl (fun _ _=> .inl (by simp)) harr⟩
   | panic ch=>exact⟨_,a₁,w₁,⟨s',ρ',n',hk,hs''⟩, .pass (x:= .inLoop c) rfl (fun _ _=> .inl (by simp)) harr⟩
   | outgrown=>exact⟨_,a₁,w₁,⟨s',ρ',n',hk,hs''⟩, .pass (x:= .inLoop c) rfl (fun _ _=> .inl (by simp)) harr⟩
 obtain⟨e,a',w',hq,harr⟩:=key _ x0 a w (Bm f0 ρ) _ rfl h0 (hle.sat hB (hb x0) hs)
 exact⟨e,a',w',hq, .of_steps (.one step_loop) harr⟩
inductive PD where | v | p | pd | pn (n:Nat) | s (k:RK) | pw | sw (k:RK)
def Sc.flat:Sc→Bool
 | .lit _ _=>true | .int _ _=>true | .tt _=>true | .bool _=>true | .str _=>true
 | .nilp=>true | .nils=>true | .nilm=>true | .nilf=>true
 | _=>false
def amT:List At→Bool
 | []=>true
 | .s x :: r=>x.flat&&amT r
 | _ :: r=>amT r
def CV.flat:CV→Bool
 | .s x=>x.flat
 | .g l=>amT l
def Blk.flat:Blk→Bool
 | .fix _ l=>amT l
 | .vec _ _ _=>true
 | .gone=>false
def Sc.norm:Sc→Sc
 | .lit k n=> .int k n
 | .tt b=> .bool b
 | x=>x
def q9:List At→List At
 | []=>[]
 | .s x :: r=> .s x.norm :: q9 r
 | a :: r=>a :: q9 r
def CV.norm:CV→CV
 | .s x=> .s x.norm
 | .g l=> .g (q9 l)
structure eJ where
 args:List CV
 heap:List Blk
 sc:List Sc
 ob:List Bool
 ids:List Nat
 wi:List (Nat×Nat)
def eJ.rd (c:eJ) (y:Sc) (b:Blk) (x:Sc) (ob:List Bool) (id:Nat):Option eJ:=
 if c.wi.any (fun p=>p.2 == id) then none else some ⟨.s y :: c.args,b :: c.heap,x :: c.sc,ob++c.ob,id :: c.ids,c.wi⟩
def eJ.wrt (c:eJ) (y:Sc) (b:Blk) (x:Sc) (ob:List Bool) (id j:Nat):Option eJ:=
 if c.ids.contains id then none else some ⟨.s y :: c.args,b :: c.heap,x :: c.sc,ob++c.ob,id :: c.ids,(j,id) :: c.wi⟩
def dF (A:Alg) (h:bT):List PD→List CV→Nat→Option eJ
 | [],[],_=>some ⟨[],[],[],[],[],[]⟩
 | d :: ds,x :: xs,j=>match d with
  | .v=>if x.flat then match dF A h ds xs j with
    | some c=>some ⟨x.norm :: c.args,c.heap,c.sc,c.ob,c.ids,c.wi⟩
    | none=>none else none
  | .p=>match x with
   | .s (.hp id off)=>match aN h id with
    | some (.fix _ l)=>match j9 400 off l with
     | some l'=>if amT l' then match dF A h ds xs (j+1) with
      | some c=>c.rd (.hp j 0) (.fix false l') (.hp id off) [] id
      | none=>none else none
     | none=>none
    | _=>none
   | _=>none
  | .pd=>match x with
   | .s (.hp id off)=>match aN h id with
    | some (.fix _ l)=>match atD l off with
     | some d=>match dF A h ds xs (j+1) with
      | some c=>c.rd (.hp j 0) (.fix false [.D d]) (.hp id off) [] id
      | none=>none
     | none=>none
    | _=>none
   | _=>none
  | .pn n=>match x with
   | .s (.hp id off)=>match aN h id with
    | some (.fix _ l)=>match Ms l off n with
     | some m=>if amT m then match dF A h ds xs (j+1) with
      | some c=>c.rd (.hp j 0) (.fix false m) (.hp id off) [] id
      | none=>none else none
     | none=>none
    | _=>none
   | _=>none
  | .s k=>match x with
   | .s .nils=>match dF A h ds xs (j+1) with
    | some c=>some ⟨.s (.hs j) :: c.args, .vec false k [] :: c.heap, .nils :: c.sc,c.ob,c.ids,c.wi⟩
    | none=>none
   | .s (.hs id)=>match aN h id with
    | some (.vec _ k' l)=>match dF A h ds xs (j+1) with
     | some c=>c.rd (.hs j) (.vec false k' l) (.hs id) [] id
     | none=>none
    | _=>none
   | .s (.hw id z lo hi)=>match aN h id with
    | some (.vec _ k' l)=>if z == k'.esz then match dF A h ds xs (j+1) with
     | some c=>c.rd (.hs j) (.vec false k' (A.sub l lo hi)) (.hw id z lo hi) [A.cmp .leq 0 lo,A.cmp .leq lo hi,A.cmp .leq hi (A.len l)] id
     | none=>none else none
    | _=>none
   | .s (.ha id off 1 lo hi 32)=>match aN h id with
    | some (.fix _ l)=>match atD l off with
     | some d=>match dF A h ds xs (j+1) with
      | some c=>c.rd (.hs j) (.vec false (.int .u32) (A.digs d lo hi)) (.ha id off 1 lo hi 32) [A.cmp .leq 0 lo,A.cmp .leq lo hi,A.cmp .leq hi 32] id
      | none=>none
     | none=>none
    | _=>none
   | _=>none
  | .pw=>match x with
   | .s (.hp id 0)=>match aN h id with
    | some (.fix true l)=>if amT l then match dF A h ds xs (j+1) with
     | some c=>c.wrt (.hp j 0) (.fix true l) (.hp id 0) [] id j
     | none=>none else none
    | _=>none
   | _=>none
  | .sw k=>match x with
   | .s (.hs id)=>match aN h id with
    | some (.vec true k' l)=>match dF A h ds xs (j+1) with
     | some c=>c.wrt (.hw j k'.esz 0 (A.len l)) (.vec true k' l) (.hs id) [] id j
     | none=>none
    | _=>none
   | .s (.hw id z lo hi)=>match aN h id with
    | some (.vec true k' l)=>if z == k'.esz then match dF A h ds xs (j+1) with
     | some c=>c.wrt (.hw j z lo hi) (.vec true k' l) (.hs id) [A.cmp .leq 0 lo,A.cmp .leq lo hi,A.cmp .leq hi (A.len l)] id j
     | none=>none else none
    | _=>none
   | _=>none
 | _,_,_=>none
def gR:List Blk→Nat→bT
 | [],_=>[]
 | b :: r,j=>(j,b) :: gR r (j+1)
def H4 (A:Alg) (L m q:Nat) (σ:List Sc):Sc→Option (List Bool×Sc)
 | .hp j off=>if q≤j then(if j < q+L then some ([], .hp (m+(j - q)) off) else none) else match σ[j]? with
  | some (.hp id o)=>some ([], .hp id (o+off))
  | _=>none
 | .hs j=>if q≤j then(if j < q+L then some ([], .hs (m+(j - q))) else none) else match σ[j]? with
  | some x=>some ([],x)
  | none=>none
 | .hw j z lo hi=>if q≤j then(if j < q+L then some ([], .hw (m+(j - q)) z lo hi) else none) else match σ[j]? with
  | some (.hs id)=>some ([], .hw id z lo hi)
  | some (.hw id z' lo' _)=>if z == z'&&lo == 0 then some ([A.cmp .leq 0 hi], .hw id z lo' (A.iadd lo' hi)) else none
  | some .nils=>some ([A.cmp .leq hi lo,A.cmp .leq 0 lo], .nils)
  | _=>none
 | x=>if x.flat then some ([],x) else none
def H3 (A:Alg) (L m q:Nat) (σ:List Sc):List At→Option (List Bool×List At)
 | []=>some ([],[])
 | .s x :: r=>match H4 A L m q σ x,H3 A L m q σ r with
  | some (o,y),some (p,s)=>some (o++p, .s y :: s)
  | _,_=>none
 | a :: r=>match H3 A L m q σ r with
  | some (p,s)=>some (p,a :: s)
  | none=>none
def Oj (A:Alg) (L m q:Nat) (σ:List Sc):CV→Option (List Bool×CV)
 | .s x=>match H4 A L m q σ x with
  | some (o,y)=>some (o, .s y)
  | none=>none
 | .g l=>match H3 A L m q σ l with
  | some (o,y)=>some (o, .g y)
  | none=>none
def Ec (A:Alg) (L m q:Nat) (σ:List Sc):List CV→Option (List Bool×List CV)
 | []=>some ([],[])
 | x :: r=>match Oj A L m q σ x,Ec A L m q σ r with
  | some (o,y),some (p,s)=>some (o++p,y :: s)
  | _,_=>none
def Mq (A:Alg) (L m q:Nat) (σ:List Sc):XV→Option (List Bool×XV)
 | .c x=>match Oj A L m q σ x with
  | some (o,y)=>some (o, .c y)
  | none=>none
 | .t l=>match Ec A L m q σ l with
  | some (o,y)=>some (o, .t y)
  | none=>none
structure LR where
 ob:List Bool
 val:XV
 new:List Blk
def DB:List Blk→Bool
 | []=>true
 | b :: r=>(match b with
  | .fix true _=>true
  | .vec true _ _=>true
  | _=>false)&&b.flat&&DB r
structure LW where
 ob:List Bool
 val:XV
 new:List Blk
 wr:List Blk
def Mh:List (Nat×Nat)→List Blk→Option bT
 | [],[]=>some []
 |(_,id) :: r,b :: l=>match Mh r l with
  | some h=>some ((id,b) :: h)
  | none=>none
 | _,_=>none
def cM (ds:List PD) (A:Alg) (g:List CV→List Blk→Option LW):bU:=fun m xs h=>
 match dF A h ds xs 0 with
 | some c=>match g c.args c.heap with
  | some r=>if DB r.new&&DB r.wr then match Mq A r.new.length m c.sc.length c.sc r.val,Mh c.wi r.wr with
   | some (o,v),some wr=>some ⟨c.ob++(r.ob++o),v,r.new,wr⟩
   | _,_=>none else none
  | none=>none
 | none=>none
def toW (g:List CV→List Blk→Option LR):List CV→List Blk→Option LW:=fun xs bs=>match g xs bs with
 | some r=>some ⟨r.ob,r.val,r.new,[]⟩
 | none=>none
def aC (ds:List PD) (A:Alg) (g:List CV→List Blk→Option LR):bU:=cM ds A (toW g)
theorem Sc.flat_den {x:Sc} (h:x.flat=true) (ρ ρ':Rho):x.den ρ'=x.den ρ:=by cases x <;> first | rfl | cases h
theorem eZ: ∀ {l:List At},amT l=true→ ∀ ρ ρ',aI ρ' l=aI ρ l
 | [],_,_,_=>rfl
 | a :: r,h,ρ,ρ'=>by
  have hc:a.cells ρ'=a.cells ρ∧amT r=true:=by
   cases a with
   | s x=>simp only[amT,Bool.and_eq_true] at h;exact⟨by simp[At.cells,Sc.flat_den h.1 ρ ρ'],h.2⟩
   | _=>exact⟨rfl,h⟩
  simp only[aI]
  rw[hc.1,eZ hc.2 ρ ρ']
theorem CV.flat_den {x:CV} (h:x.flat=true) (ρ ρ':Rho):x.den ρ'=x.den ρ:=by
 cases x with
 | s x=>exact Sc.flat_den h ρ ρ'
 | g l=>simp only[CV.den];rw[eZ h ρ ρ']
theorem Sc.norm_den (x:Sc) (ρ:Rho):x.norm.den ρ=x.den ρ:=by cases x <;> rfl
theorem cP (ρ:Rho): ∀ l:List At,aI ρ (q9 l)=aI ρ l
 | []=>rfl
 | .s x :: r=>by simp only[q9,aI,At.cells,Sc.norm_den,cP ρ r]
 | .D _ :: r=>by simp only[q9,aI,cP ρ r]
 | .W _ :: r=>by simp only[q9,aI,cP ρ r]
 | .R _ :: r=>by simp only[q9,aI,cP ρ r]
 | .P _ :: r=>by simp only[q9,aI,cP ρ r]
theorem CV.norm_den (x:CV) (ρ:Rho):x.norm.den ρ=x.den ρ:=by
 cases x with
 | s x=>exact Sc.norm_den x ρ
 | g l=>simp only[CV.norm,CV.den,cP]
theorem Blk.flat_stb {b:Blk} (h:b.flat=true) (n:Ids) (ρ:Rho):b.stb n ρ:=by
 cases b with
 | fix o l=>exact fun ρ' _=>eZ h ρ ρ'
 | vec=>trivial
 | gone=>trivial
theorem Blk.flat_ok {b:Blk} (h:b.flat=true) {w:World} {v:Value} {ρ:Rho} (ρ':Rho) (hk:b.ok w v ρ):b.ok w v ρ':=
 Blk.ok_move (Blk.flat_stb h (fun _=>False) ρ) (fun _ hi=>hi.elim) hk
theorem RK.flat_cons (k:RK) (x:k.ty) (l:List k.ty):k.flat (x :: l)=aI (fun _=>undef) (k.at x)++k.flat l:=rfl
theorem RK.at_len (k:RK) (x:k.ty) (ρ:Rho):(aI ρ (k.at x)).length=k.esz:=by rw[flats_length,k.at_sizes]
theorem RK.flat_take (k:RK): ∀ (l:List k.ty) (i:Nat),k.flat (l.take i)=(k.flat l).take (i*k.esz)
 | [],i=>by simp[RK.flat]
 | x :: l,0=>by simp[RK.flat]
 | x :: l,i+1=>by
  rw[List.take_succ_cons,RK.flat_cons,RK.flat_cons,RK.flat_take k l i,List.take_append,k.at_len,List.take_of_length_le (l:=aI _ _) (by rw[k.at_len,Nat.add_mul];omega)]
  have:(i+1)*k.esz - k.esz=i*k.esz:=by rw[Nat.add_mul];omega
  rw[this]
theorem RK.flat_drop (k:RK): ∀ (l:List k.ty) (i:Nat),k.flat (l.drop i)=(k.flat l).drop (i*k.esz)
 | [],i=>by simp[RK.flat]
 | x :: l,0=>by simp[RK.flat]
 | x :: l,i+1=>by
  rw[List.drop_succ_cons,RK.flat_cons,RK.flat_drop k l i,List.drop_append,k.at_len,List.drop_eq_nil_of_le (as:=aI _ _) (by rw[k.at_len,Nat.add_mul];omega)]
  have:(i+1)*k.esz - k.esz=i*k.esz:=by rw[Nat.add_mul];omega
  rw[this];rfl
def anI (n:Ids) (ρ:Rho):Sc→Prop
 | .hp id _=>n id∧ ∃ b o,ρ id= .pointer (some ⟨b,o,none⟩)
 | .hw id _ lo hi=>n id∧ ∃ base len cap,ρ id= .slice base len cap∧0≤lo∧lo.toNat≤cap∧lo≤hi∧ ∀ a,base=some a→ ∃ b o,a=⟨b,o,none⟩
 | .ha id _ _ _ _ _=>n id
 | .hs id=>n id
 | .nils=>True
 | _=>False
theorem anI.stb {n:Ids} {ρ:Rho} {x:Sc} (h:anI n ρ x):iK n ρ (.s x):=fun ρ' ha=>by
 cases x with
 | hp id o=>simp only[CV.den,Sc.den];rw[ha id h.1]
 | hw id z lo hi=>simp only[CV.den,Sc.den];rw[ha id h.1]
 | ha id e f a b c=>simp only[CV.den,Sc.den];rw[ha id h]
 | hs id=>simp only[CV.den,Sc.den];exact ha id h
 | nils=>rfl
 | _=>exact h.elim
structure lM (w0:World) (Wr:jH) (h:bT) (w:World) (ρ:Rho) (n:Ids) (c:eJ) (xs:List CV) (j:Nat):Prop where
 len:c.heap.length=c.sc.length
 blk: ∀ (i:Nat) (x:Sc) (b:Blk),c.sc[i]? =some x→c.heap[i]? =some b→b.live=true∧b.flat=true∧b.ok w (x.den ρ) ρ∧(x.den ρ).oneCell'=true
 args: ∀ ρ':Rho,(∀ i x,c.sc[i]? =some x→ρ' (j+i)=x.den ρ)→c.args.map (CV.den ρ')=xs.map (CV.den ρ)
 stb: ∀ v,v∈c.args→ ∀ ρ',iK (fun i=>j≤i∧i < j+c.sc.length) ρ' v
 scs: ∀ x,x∈c.sc→anI n ρ x
 at_: ∀ x,x∈c.sc→ ∀ y,bK (x.den ρ)=some y→ ∃ id k,id∈c.ids∧aN h id=some k∧k.live=true∧bK (ρ id)=some y
 own: ∀ (i:Nat) (x:Sc) (b:Blk),c.sc[i]? =some x→c.heap[i]? =some b→b.own=true→ ∃ id k,(j+i,id)∈c.wi∧aN h id=some k∧k.own=true∧x.den ρ=ρ id
 wis: ∀ q id,(q,id)∈c.wi→id∈c.ids∧ ∃ i x b k,q=j+i∧c.sc[i]? =some x∧c.heap[i]? =some b∧b.own=true∧aN h id=some k∧k.own=true∧x.den ρ=ρ id
 nod:(c.wi.map (·.2)).Nodup
 sep: ∀ (i:Nat) (x:Sc) (b:Blk) (i':Nat) (x':Sc),c.sc[i]? =some x→c.heap[i]? =some b→c.sc[i']? =some x'→i≠i'→b.own=true→ ∀ y,bK (x.den ρ)=some y→bK (x'.den ρ)≠some y
section
variable {w0 w:World} {Wr:jH} {ρ:Rho} {h:bT} {n:Ids} {c:eJ} {xs:List CV} {j:Nat}
theorem lM.cons (hc:lM w0 Wr h w ρ n c xs (j+1)) (hs:HS w0 Wr ρ h n w) {y x:Sc} {b:Blk} {ob:List Bool} {ids:List Nat} {wi:List (Nat×Nat)} (hy: ∀ ρ':Rho,ρ' j=x.den ρ→y.den ρ'=x.den ρ)
  (hst: ∀ ρ' ρ'':Rho,ρ'' j=ρ' j→y.den ρ''=y.den ρ') (h1:b.live=true) (h2:b.flat=true) (h3:b.ok w (x.den ρ) ρ) (h4:(x.den ρ).oneCell'=true) (h6:anI n ρ x)
  (hids: ∀ id,id∈c.ids→id∈ids)
  (hat: ∀ z,bK (x.den ρ)=some z→ ∃ id k,id∈ids∧aN h id=some k∧k.live=true∧bK (ρ id)=some z∧ ∀ q id',(q,id')∈c.wi→id'≠id)
  (hown:(b.own=false∧wi=c.wi)∨(∃ id k,wi=(j,id) :: c.wi∧aN h id=some k∧k.own=true∧x.den ρ=ρ id∧id∉c.ids∧id∈ids∧b.own=true)) :
  lM w0 Wr h w ρ n ⟨.s y :: c.args,b :: c.heap,x :: c.sc,ob,ids,wi⟩ (.s x :: xs) j:=by
 have fE: ∀ p,p∈c.wi→p∈wi:=fun p hp=>by
  rcases hown with ⟨_,rfl⟩ | ⟨id,k,rfl,_⟩
  ·exact hp
  ·exact List.mem_cons_of_mem _ hp
 exact {
  len:=by simp[hc.len]
  blk:=fun i x' b' hx hb=>by
   cases i with
   | zero=>simp at hx hb;subst hx hb;exact⟨h1,h2,h3,h4⟩
   | succ i=>exact hc.blk i x' b' (by simpa using hx) (by simpa using hb)
  args:=fun ρ' hρ=>by
   simp only[List.map_cons,CV.den]
   rw[hy ρ' (by simpa using hρ 0 x rfl),hc.args ρ' fun i x' hx=>by rw[show j+1+i=j+(i+1) from by omega];exact hρ (i+1) x' (by simpa using hx)]
  stb:=fun v hv ρ'=>by
   simp only[List.mem_cons] at hv
   rcases hv with rfl | hv
   ·exact fun ρ'' ha=>hst ρ' ρ'' (ha j ⟨Nat.le_refl _,by simp⟩)
   ·exact(hc.stb v hv ρ').mono fun i hi=>⟨by omega,by simp only[List.length_cons];omega⟩
  scs:=fun x' hx=>by
   simp only[List.mem_cons] at hx
   rcases hx with rfl | hx
   ·exact h6
   ·exact hc.scs x' hx
  at_:=fun x' hx z hz=>by
   simp only[List.mem_cons] at hx
   rcases hx with rfl | hx
   ·obtain⟨id,k,g1,g2,g3,g4,_⟩:=hat z hz
    exact⟨id,k,g1,g2,g3,g4⟩
   ·obtain⟨id,k,g1,g2⟩:=hc.at_ x' hx z hz
    exact⟨id,k,hids id g1,g2⟩
  own:=fun i x' b' hx hb ho=>by
   cases i with
   | zero=>
    simp at hx hb
    subst hx hb
    rcases hown with ⟨h0,_⟩ | ⟨id,k,rfl,g1,g2,g3,g4,_⟩
    ·rw[h0] at ho;cases ho
    ·exact⟨id,k,by simp,g1,g2,g3⟩
   | succ i=>
    obtain⟨id,k,g1,g2⟩:=hc.own i x' b' (by simpa using hx) (by simpa using hb) ho
    exact⟨id,k,fE _ (by rw[show j+(i+1)=j+1+i from by omega];exact g1),g2⟩
  wis:=fun q id hq=>by
   have old:(q,id)∈c.wi→id∈ids∧ ∃ i x_1 b_1 k,q=j+i∧(x :: c.sc)[i]? =some x_1∧(b :: c.heap)[i]? =some b_1∧b_1.own=true∧aN h id=some k∧k.own=true∧x_1.den ρ=ρ id:=fun hq=>by
    obtain⟨g1,i,x',b',k,g2,g3,g4,g5⟩:=hc.wis q id hq
    exact⟨hids id g1,i+1,x',b',k,by omega,by simpa using g3,by simpa using g4,g5⟩
   rcases hown with ⟨_,rfl⟩ | ⟨id0,k,rfl,g1,g2,g3,g4,g5,g6⟩
   ·exact old hq
   ·simp only[List.mem_cons,Prod.mk.injEq] at hq
    rcases hq with ⟨rfl,rfl⟩ | hq
    ·exact⟨g5,0,x,b,k,by simp,rfl,rfl,g6,g1,g2,g3⟩
    ·exact old hq
  nod:=by
   rcases hown with ⟨_,rfl⟩ | ⟨id0,k,rfl,g1,g2,g3,g4,_⟩
   ·exact hc.nod
   ·simp only[List.map_cons,List.nodup_cons]
    refine⟨fun hm=>?_,hc.nod⟩
    obtain⟨⟨q,id⟩,hp,rfl⟩:=List.mem_map.1 hm
    exact g4 (hc.wis q id hp).1
  sep:=fun i x1 b1 i' x2 hx1 hb1 hx2 hij ho z hz hz2=>by
   cases i with
   | zero=>
    simp at hx1 hb1
    subst hx1 hb1
    cases i' with
    | zero=>exact hij rfl
    | succ i'=>
     rcases hown with ⟨h0,_⟩ | ⟨id,k,rfl,g1,g2,g3,g4,_⟩
     ·rw[h0] at ho;cases ho
     ·have hx2':c.sc[i']? =some x2:=by simpa using hx2
      obtain⟨id',k',e1,e2,e3,e4⟩:=hc.at_ x2 (List.mem_of_getElem? hx2') z hz2
      rw[g3] at hz
      have hne:id≠id':=fun e=>by subst e;exact g4 e1
      exact hs.sep id k id' k' g1 e2 hne g2 e3 z hz e4
   | succ i=>
    have hx1':c.sc[i]? =some x1:=by simpa using hx1
    have hb1':c.heap[i]? =some b1:=by simpa using hb1
    cases i' with
    | zero=>
     simp at hx2
     subst hx2
     obtain⟨id,k,e1,e2,e3,e4⟩:=hc.own i x1 b1 hx1' hb1' ho
     obtain⟨id',k',f1,f2,f3,f4,f5⟩:=hat z hz2
     rw[e4] at hz
     exact hs.sep id k id' k' e2 f2 (f5 _ id e1) e3 f3 z hz f4
    | succ i'=>exact hc.sep i x1 b1 i' x2 hx1' hb1' (by simpa using hx2) (by omega) ho z hz hz2 }
theorem lM.rd (hc:lM w0 Wr h w ρ n c xs (j+1)) (hs:HS w0 Wr ρ h n w) {y x:Sc} {b:Blk} {ob:List Bool} {id:Nat} {c':eJ} (e:c.rd y b x ob id=some c') {k:Blk} (hk:aN h id=some k) (hkl:k.live=true)
  (hx: ∀ z,bK (x.den ρ)=some z→bK (ρ id)=some z) (hy: ∀ ρ':Rho,ρ' j=x.den ρ→y.den ρ'=x.den ρ)
  (hst: ∀ ρ' ρ'':Rho,ρ'' j=ρ' j→y.den ρ''=y.den ρ') (h1:b.live=true) (h1':b.own=false) (h2:b.flat=true) (h3:b.ok w (x.den ρ) ρ) (h4:(x.den ρ).oneCell'=true) (h6:anI n ρ x) :
  lM w0 Wr h w ρ n c' (.s x :: xs) j:=by
 unfold eJ.rd at e
 split at e
 ·simp at e
 ·rename_i hn
  simp only[Option.some.injEq] at e
  subst e
  refine hc.cons hs hy hst h1 h2 h3 h4 h6 (fun i hi=>List.mem_cons_of_mem _ hi) (fun z hz=>⟨id,k,List.mem_cons_self ..,hk,hkl,hx z hz,fun q id' hq he=>?_⟩) (.inl ⟨h1',rfl⟩)
  subst he
  exact hn (List.any_eq_true.2 ⟨_,hq,by simp⟩)
theorem lM.wrt (hc:lM w0 Wr h w ρ n c xs (j+1)) (hs:HS w0 Wr ρ h n w) {y x x':Sc} {b:Blk} {ob:List Bool} {id:Nat} {c':eJ} (e:c.wrt y b x ob id j=some c') {k:Blk} (hk:aN h id=some k) (hko:k.own=true)
  (hx:x.den ρ=ρ id) (hx': ∀ ρ':Rho,ρ' j=x.den ρ→y.den ρ'=x'.den ρ)
  (hst: ∀ ρ' ρ'':Rho,ρ'' j=ρ' j→y.den ρ''=y.den ρ') (h1':b.own=true) (h2:b.flat=true) (h3:b.ok w (x.den ρ) ρ) (h4:(x.den ρ).oneCell'=true) (h6:anI n ρ x) :
  lM w0 Wr h w ρ n c' (.s x' :: xs) j:=by
 unfold eJ.wrt at e
 split at e
 ·simp at e
 ·rename_i hn
  simp only[Option.some.injEq] at e
  subst e
  have hn':id∉c.ids:=fun hi=>hn (by simpa using hi)
  have base:=hc.cons (y:= .un) (x:=x) (b:=b) (ob:=ob++c.ob) (ids:=id :: c.ids) (wi:=(j,id) :: c.wi) hs
  have hwi: ∀ q id',(q,id')∈c.wi→id'≠id:=fun q id' hq he=>by subst he;exact hn' (hc.wis q _ hq).1
  have main:lM w0 Wr h w ρ n ⟨.s y :: c.args,b :: c.heap,x :: c.sc,ob++c.ob,id :: c.ids,(j,id) :: c.wi⟩ (.s x' :: xs) j:= {
   len:=by simp[hc.len]
   blk:=fun i x1 b1 hx1 hb1=>by
    cases i with
    | zero=>simp at hx1 hb1;subst hx1 hb1;exact⟨Blk.live_own h1',h2,h3,h4⟩
    | succ i=>exact hc.blk i x1 b1 (by simpa using hx1) (by simpa using hb1)
   args:=fun ρ' hρ=>by
    simp only[List.map_cons,CV.den]
    rw[hx' ρ' (by simpa using hρ 0 x rfl),hc.args ρ' fun i x' hx=>by rw[show j+1+i=j+(i+1) from by omega];exact hρ (i+1) x' (by simpa using hx)]
   stb:=fun v hv ρ'=>by
    simp only[List.mem_cons] at hv
    rcases hv with rfl | hv
    ·exact fun ρ'' ha=>hst ρ' ρ'' (ha j ⟨Nat.le_refl _,by simp⟩)
    ·exact(hc.stb v hv ρ').mono fun i hi=>⟨by omega,by simp only[List.length_cons];omega⟩
   scs:=fun x1 hx1=>by
    simp only[List.mem_cons] at hx1
    rcases hx1 with rfl | hx1
    ·exact h6
    ·exact hc.scs x1 hx1
   at_:=fun x1 hx1 z hz=>by
    simp only[List.mem_cons] at hx1
    rcases hx1 with rfl | hx1
    ·exact⟨id,k,List.mem_cons_self ..,hk,Blk.live_own hko,by rw[← hx];exact hz⟩
    ·obtain⟨id',k',g1,g2⟩:=hc.at_ x1 hx1 z hz
     exact⟨id',k',List.mem_cons_of_mem _ g1,g2⟩
   own:=fun i x1 b1 hx1 hb1 ho=>by
    cases i with
    | zero=>simp at hx1 hb1;subst hx1 hb1;exact⟨id,k,by simp,hk,hko,hx⟩
    | succ i=>
     obtain⟨id',k',g1,g2⟩:=hc.own i x1 b1 (by simpa using hx1) (by simpa using hb1) ho
     exact⟨id',k',List.mem_cons_of_mem _ (by rw[show j+(i+1)=j+1+i from by omega];exact g1),g2⟩
   wis:=fun q id' hq=>by
    simp only[List.mem_cons,Prod.mk.injEq] at hq
    rcases hq with ⟨rfl,rfl⟩ | hq
    ·exact⟨List.mem_cons_self ..,0,x,b,k,by simp,rfl,rfl,h1',hk,hko,hx⟩
    ·obtain⟨g1,i,x1,b1,k1,g2,g3,g4,g5⟩:=hc.wis q id' hq
     exact⟨List.mem_cons_of_mem _ g1,i+1,x1,b1,k1,by omega,by simpa using g3,by simpa using g4,g5⟩
   nod:=by
    simp only[List.map_cons,List.nodup_cons]
    refine⟨fun hm=>?_,hc.nod⟩
    obtain⟨⟨q,id'⟩,hp,rfl⟩:=List.mem_map.1 hm
    exact hwi q id' hp rfl
   sep:=fun i x1 b1 i' x2 hx1 hb1 hx2 hij ho z hz hz2=>by
    cases i with
    | zero=>
     simp at hx1 hb1
     subst hx1 hb1
     cases i' with
     | zero=>exact hij rfl
     | succ i'=>
      have hx2':c.sc[i']? =some x2:=by simpa using hx2
      obtain⟨id',k',e1,e2,e3,e4⟩:=hc.at_ x2 (List.mem_of_getElem? hx2') z hz2
      rw[hx] at hz
      have hne:id≠id':=fun e=>by subst e;exact hn' e1
      exact hs.sep id k id' k' hk e2 hne hko e3 z hz e4
    | succ i=>
     have hx1':c.sc[i]? =some x1:=by simpa using hx1
     have hb1':c.heap[i]? =some b1:=by simpa using hb1
     cases i' with
     | zero=>
      simp at hx2
      subst hx2
      obtain⟨id',k',e1,e2,e3,e4⟩:=hc.own i x1 b1 hx1' hb1' ho
      rw[e4] at hz
      rw[hx] at hz2
      exact hs.sep id' k' id k e2 hk (hwi _ id' e1) e3 (Blk.live_own hko) z hz hz2
     | succ i'=>exact hc.sep i x1 b1 i' x2 hx1' hb1' (by simpa using hx2) (by omega) ho z hz hz2 }
  exact main
theorem BD {y x:Sc} {b:Blk} {ob:List Bool} {id:Nat} {c':eJ} (e:c.rd y b x ob id=some c'):c'.ob=ob++c.ob:=by
 unfold eJ.rd at e
 split at e
 ·simp at e
 ·simp only[Option.some.injEq] at e;subst e;rfl
theorem E2 {y x:Sc} {b:Blk} {ob:List Bool} {id i:Nat} {c':eJ} (e:c.wrt y b x ob id i=some c'):c'.ob=ob++c.ob:=by
 unfold eJ.wrt at e
 split at e
 ·simp at e
 ·simp only[Option.some.injEq] at e;subst e;rfl
theorem uD {id off b o:Nat} {own:Bool} {l:List At} (h1:ρ id= .pointer (some ⟨b,o,none⟩)): ∀ z,bK ((Sc.hp id off).den ρ)=some z→bK (ρ id)=some z:=fun z hz=>by
 rw[fR h1] at hz;rw[h1];exact hz
theorem HT {id z0:Nat} {lo hi:Int} {base:Option Addr} {len cap:Nat} (h2:ρ id= .slice base len cap): ∀ z,bK ((Sc.hw id z0 lo hi).den ρ)=some z→bK (ρ id)=some z:=fun z hz=>by
 simp only[Sc.den,h2] at hz
 rw[h2]
 cases base with
 | none=>simp only[Option.map_none,ite_self,bK] at hz;cases hz
 | some a=>
  simp only[Option.map_some] at hz
  split at hz
  ·exact hz
  ·simp only[bK,Addr.add] at hz ⊢
   split at hz <;> exact hz
theorem cB {A:Alg} (hA:A=aA) (hs:HS w0 Wr ρ h n w): ∀ {ds:List PD} {xs:List CV} {j:Nat} {c:eJ},
  dF A h ds xs j=some c→(∀ b,b∈c.ob→b=true)→lM w0 Wr h w ρ n c xs j
 | [],[],j,c,e,ho=>by
  simp only[dF,Option.some.injEq] at e;subst e
  exact⟨rfl,fun i x b hx=>by simp at hx,fun _ _=>rfl,fun v hv=>by simp at hv,fun x hx=>by simp at hx,fun x hx=>by simp at hx,fun i x b hx=>by simp at hx,fun q id hq=>by simp at hq,by simp,fun i x b i' x' hx=>by simp at hx⟩
 | [],_ :: _,_,_,e,_=>by simp[dF] at e
 | _ :: _,[],_,_,e,_=>by simp[dF] at e
 | d :: ds,x :: xs,j,c,e,ho=>by
  cases d with
  | v=>
   simp only[dF] at e
   split at e
   ·rename_i hf
    split at e
    ·rename_i c' hc
     simp only[Option.some.injEq] at e;subst e
     have ih:=cB hA hs hc ho
     exact⟨ih.len,ih.blk,fun ρ' hρ=>by simp only[List.map_cons];rw[CV.norm_den,CV.flat_den hf ρ ρ',ih.args ρ' hρ],fun v hv ρ'=>by
      simp only[List.mem_cons] at hv
      rcases hv with rfl | hv
      ·exact fun ρ'' _=>by rw[CV.norm_den,CV.norm_den];exact CV.flat_den hf _ _
      ·exact ih.stb v hv ρ',ih.scs,ih.at_,ih.own,ih.wis,ih.nod,ih.sep⟩
    ·simp at e
   ·simp at e
  | p=>
   simp only[dF] at e
   split at e
   ·rename_i id off
    split at e
    ·rename_i own l hl
     split at e
     ·rename_i l' hl'
      split at e
      ·rename_i hf
       split at e
       ·rename_i c' hc
        have ih:=cB hA hs hc fun b hb=>ho b (by rw[BD e];simp[hb])
        obtain⟨b,o,h1,h2,h3,h4,h5,h6⟩:=hs.fix hl
        obtain⟨g1,g2⟩:=fX ρ _ _ _ _ hl'
        have hd:(Sc.hp id off).den ρ= .pointer (some ⟨b,o+off,none⟩):=fR h1
        refine ih.rd hs (x:= .hp id off) e hl rfl (uD (own:=own) (l:=l) h1) (fun ρ' hρ=>?_) (fun ρ' ρ'' he=>?_) rfl rfl hf ⟨b,o+off,hd,h2,?_,fun e=>by cases e⟩ (by rw[hd];rfl) ⟨h5,b,o,h1⟩
        ·rw[hd] at hρ ⊢
         simp[Sc.den,hρ,cF,Addr.add_mid]
        ·simp only[Sc.den,he]
        ·rw[g2]
         intro q v hv
         have:=h3 (off+q) v (by simpa using hv)
         rw[← Nat.add_assoc] at this
         exact this
       ·simp at e
      ·simp at e
     ·simp at e
    ·simp at e
   ·simp at e
  | pn nn=>
   simp only[dF] at e
   split at e
   ·rename_i id off
    split at e
    ·rename_i own l hl
     split at e
     ·rename_i l' hl'
      split at e
      ·rename_i hf
       split at e
       ·rename_i c' hc
        have ih:=cB hA hs hc fun b hb=>ho b (by rw[BD e];simp[hb])
        obtain⟨b,o,h1,h2,h3,h4,h5,h6⟩:=hs.fix hl
        obtain⟨g1,g2⟩:=eI ρ hl'
        have hd:(Sc.hp id off).den ρ= .pointer (some ⟨b,o+off,none⟩):=fR h1
        refine ih.rd hs (x:= .hp id off) e hl rfl (uD (own:=own) (l:=l) h1) (fun ρ' hρ=>?_) (fun ρ' ρ'' he=>?_) rfl rfl hf ⟨b,o+off,hd,h2,?_,fun e=>by cases e⟩ (by rw[hd];rfl) ⟨h5,b,o,h1⟩
        ·rw[hd] at hρ ⊢
         simp[Sc.den,hρ,cF,Addr.add_mid]
        ·simp only[Sc.den,he]
        ·rw[g2]
         exact gV off nn h3
       ·simp at e
      ·simp at e
     ·simp at e
    ·simp at e
   ·simp at e
  | pd=>
   simp only[dF] at e
   split at e
   ·rename_i id off
    split at e
    ·rename_i own l hl
     split at e
     ·rename_i d hd'
      split at e
      ·rename_i c' hc
       have ih:=cB hA hs hc fun b hb=>ho b (by rw[BD e];simp[hb])
       obtain⟨b,o,h1,h2,h3,h4,h5,h6⟩:=hs.fix hl
       obtain⟨g1,g2⟩:=j7 (ρ:=ρ) hd'
       have hd:(Sc.hp id off).den ρ= .pointer (some ⟨b,o+off,none⟩):=fR h1
       refine ih.rd hs (x:= .hp id off) e hl rfl (uD (own:=own) (l:=l) h1) (fun ρ' hρ=>?_) (fun ρ' ρ'' he=>?_) rfl rfl rfl ⟨b,o+off,hd,h2,?_,fun e=>by cases e⟩ (by rw[hd];rfl) ⟨h5,b,o,h1⟩
       ·rw[hd] at hρ ⊢
        simp[Sc.den,hρ,cF,Addr.add_mid]
       ·simp only[Sc.den,he]
       ·simp only[aI,At.cells,List.append_nil]
        rw[← g2]
        exact gV off 32 h3
      ·simp at e
     ·simp at e
    ·simp at e
   ·simp at e
  | s k=>
   simp only[dF] at e
   split at e
   ·split at e
    ·rename_i c' hc
     simp only[Option.some.injEq] at e;subst e
     have ih:=cB hA hs hc ho
     exact ih.cons hs (x:= .nils) (fun ρ' hρ=>hρ) (fun ρ' ρ'' he=>he) rfl rfl ⟨none,0,rfl,Nat.le_refl _,rfl,rfl⟩ rfl trivial (fun _ h=>h) (fun z hz=>by cases hz) (.inl ⟨rfl,rfl⟩)
    ·simp at e
   ·rename_i id
    split at e
    ·rename_i own k' l hl
     split at e
     ·rename_i c' hc
      have ih:=cB hA hs hc fun b hb=>ho b (by rw[BD e];simp[hb])
      obtain⟨h1,⟨base,cap,h2,h3,h4⟩,h5⟩:=hs.ok _ _ hl
      refine ih.rd hs (x:= .hs id) e hl rfl (fun z hz=>hz) (fun ρ' hρ=>hρ) (fun ρ' ρ'' he=>he) rfl rfl rfl ⟨base,cap,h2,h3,?_⟩ (hs.one id) h1
      cases base with
      | none=>exact h4
      | some a=>obtain⟨b,o,g1,g2,g3,_⟩:=h4;exact⟨b,o,g1,g2,g3,fun e=>by cases e⟩
     ·simp at e
    ·simp at e
   ·rename_i id z lo hi
    split at e
    ·rename_i own k' l hl
     split at e
     ·rename_i hz
      split at e
      ·rename_i c' hc
       simp only[beq_iff_eq] at hz
       subst hz
       have hob:=ho
       rw[BD e] at hob
       simp only[List.cons_append,List.nil_append,List.forall_mem_cons,hA,aA,aP,decide_eq_true_eq] at hob
       obtain⟨g1,g2,g3,hob⟩:=hob
       have ih:=cB hA hs hc hob
       obtain⟨h1,⟨base,cap,h2,h3,h4⟩,h5⟩:=hs.ok _ _ hl
       have hd:(Sc.hw id k'.esz lo hi).den ρ= .slice (if cap=lo.toNat then base else base.map (·.add (lo.toNat*k'.esz))) (hi.toNat - lo.toNat) (cap - lo.toNat):=by
        simp only[Sc.den,h2]
       have hlen:(aA.sub l lo hi).length=hi.toNat - lo.toNat:=by
        simp only[aA,List.length_drop,List.length_take];omega
       refine ih.rd hs (x:= .hw id k'.esz lo hi) e hl rfl (HT h2) (fun ρ' hρ=>hρ) (fun ρ' ρ'' he=>he) rfl rfl rfl ⟨_,cap - lo.toNat,by rw[hA,hlen];exact hd,by rw[hA,hlen];omega,?_⟩ (by rw[hd];rfl) ⟨h1,base,_,cap,h2,g1,by omega,g2,?_⟩
       ·rw[hA]
        cases base with
        | none=>
         obtain⟨h4,h6⟩:=h4
         subst h4 h6
         simp[aA]
        | some a=>
         obtain⟨b,o,q1,q2,q3,_⟩:=h4
         subst q1
         by_cases hcl:cap=lo.toNat
         ·rw[if_pos hcl]
          refine⟨b,o,rfl,q2,?_,fun e=>by cases e⟩
          have:aA.sub l lo hi=[]:=List.eq_nil_of_length_eq_zero (by rw[hlen];omega)
          rw[this]
          intro q v hv;simp[RK.flat] at hv
         ·rw[if_neg hcl]
          refine⟨b,o+lo.toNat*k'.esz,by simp[Addr.add_mid],q2,?_,fun e=>by cases e⟩
          have:k'.flat (aA.sub l lo hi)=((k'.flat l).take (hi.toNat*k'.esz)).drop (lo.toNat*k'.esz):=by
           simp only[aA];rw[RK.flat_drop,RK.flat_take]
          rw[this]
          intro q v hv
          have:=q3 (lo.toNat*k'.esz+q) v (by
           rw[List.getElem?_drop,List.getElem?_take] at hv
           split at hv
           ·exact hv
           ·simp at hv)
          rw[← Nat.add_assoc] at this
          exact this
       ·intro a ha
        subst ha
        obtain⟨b,o,q1,_⟩:=h4
        exact⟨b,o,q1⟩
      ·simp at e
     ·simp at e
    ·simp at e
   ·
     rename_i id off lo hi
     split at e
     ·rename_i own l hl
      split at e
      ·rename_i d hd
       split at e
       ·rename_i c' hc
        have hob:=ho
        rw[BD e] at hob
        simp only[List.cons_append,List.nil_append,List.forall_mem_cons,hA,aA,aP,decide_eq_true_eq] at hob
        obtain⟨g1,g2,g3,hob⟩:=hob
        have ih:=cB hA hs hc hob
        obtain⟨b,o,h1,h2,h3,h4,h5,h6⟩:=hs.fix hl
        obtain⟨h9,h10⟩:=j7 (ρ:=ρ) hd
        have hde:=sU (off:=off) (esz:=1) (lo:=lo) (hi:=hi) (cap:=32) h1
        have hlen:(aA.digs d lo hi).length=hi.toNat - lo.toNat:=by simp[aA]
        refine ih.rd hs (x:= .ha id off 1 lo hi 32) e hl rfl (fun z hz=>?_) (fun ρ' hρ=>hρ) (fun ρ' ρ'' he=>he) rfl rfl rfl ⟨_,32 - lo.toNat,by rw[hA,hlen];exact hde,by rw[hA,hlen];omega,?_⟩ (by rw[hde];rfl) h5
        ·rw[hde] at hz
         rw[h1]
         by_cases hcl:32=lo.toNat
         ·rw[if_pos hcl] at hz;exact hz
         ·rw[if_neg hcl] at hz;exact hz
        ·rw[hA]
         by_cases hcl:32=lo.toNat
         ·rw[if_pos hcl]
          refine⟨b,o+off,rfl,h2,?_,fun e=>by cases e⟩
          have:aA.digs d lo hi=[]:=List.eq_nil_of_length_eq_zero (by rw[hlen];omega)
          rw[this]
          intro q v hv;simp[RK.flat] at hv
         ·rw[if_neg hcl]
          refine⟨b,o+(off+lo.toNat*1),rfl,h2,?_,fun e=>by cases e⟩
          intro q v hv
          rw[show RK.flat (.int .u32) (aA.digs d lo hi)=(aA.digs d lo hi).map (Value.int .u32) from zM _] at hv
          have hq:q < hi.toNat - lo.toNat:=by
           rcases Nat.lt_or_ge q (hi.toNat - lo.toNat) with h | h
           ·exact h
           ·rw[List.getElem?_eq_none (by rw[List.length_map,hlen];exact h)] at hv;simp at hv
          have hv2:v= .int .u32 ((d.dig (lo.toNat+q):Nat):Int):=by
           simp[aA,hq] at hv
           exact hv.symm
          subst hv2
          have h11:d.cells[lo.toNat+q]? =some (.int .u32 ((d.dig (lo.toNat+q):Nat):Int)):=by
           have:lo.toNat+q < 32:=by omega
           simp[Dg.cells,this]
          rw[← h10,List.getElem?_take,if_pos (by omega),List.getElem?_drop] at h11
          have:=h3 _ _ h11
          rw[show o+(off+lo.toNat*1)+q=o+(off+(lo.toNat+q)) from by omega]
          exact this
       ·simp at e
      ·simp at e
     ·simp at e
   ·simp at e
  | pw=>
   simp only[dF] at e
   split at e
   ·rename_i id
    split at e
    ·rename_i l hl
     split at e
     ·rename_i hf
      split at e
      ·rename_i c' hc
       have ih:=cB hA hs hc fun b hb=>ho b (by rw[E2 e];simp[hb])
       obtain⟨b,o,h1,h2,h3,h4,h5,h6⟩:=hs.fix hl
       have hd:(Sc.hp id 0).den ρ=ρ id:=by rw[fR h1,h1];rfl
       refine ih.wrt hs (x:= .hp id 0) e hl rfl hd (fun ρ' hρ=>?_) (fun ρ' ρ'' he=>?_) rfl hf ?_ (by rw[hd];exact hs.one id) ⟨h5,b,o,h1⟩
       ·simp only[Sc.den] at hρ ⊢
        rw[hρ,fU]
       ·simp only[Sc.den,he]
       ·rw[hd];exact(hs.ok _ _ hl).2.1
      ·simp at e
     ·simp at e
    ·simp at e
   ·simp at e
  | sw k=>
   simp only[dF] at e
   split at e
   ·rename_i id
    split at e
    ·rename_i k' l hl
     split at e
     ·rename_i c' hc
      have ih:=cB hA hs hc fun b hb=>ho b (by rw[E2 e];simp[hb])
      obtain⟨h1,hok,h5⟩:=hs.ok _ _ hl
      obtain⟨base,cap,h2,h3,h4⟩:=hok
      refine ih.wrt hs (x:= .hs id) (x':= .hs id) e hl rfl rfl (fun ρ' hρ=>?_) (fun ρ' ρ'' he=>?_) rfl rfl (hs.ok _ _ hl).2.1 (hs.one id) h1
      ·have hρ':ρ' j= .slice base l.length cap:=by rw[hρ];exact h2
       show(Sc.hw j k'.esz 0 (A.len l)).den ρ'=ρ id
       rw[h2,hA]
       simp only[Sc.den,hρ',aA]
       simp only[Int.toNat_zero,Nat.zero_mul,Nat.sub_zero,Int.toNat_natCast]
       congr 1
       split
       ·rfl
       ·cases base with
        | none=>rfl
        | some a=>obtain⟨b,o,rfl,_⟩:=h4;simp[Addr.add_mid]
      ·simp only[Sc.den,he]
     ·simp at e
    ·simp at e
   ·rename_i id z lo hi
    split at e
    ·rename_i k' l hl
     split at e
     ·rename_i hz
      split at e
      ·rename_i c' hc
       simp only[beq_iff_eq] at hz
       subst hz
       have ih:=cB hA hs hc fun b hb=>ho b (by rw[E2 e];simp[hb])
       obtain⟨h1,hok,h5⟩:=hs.ok _ _ hl
       refine ih.wrt hs (x:= .hs id) (x':= .hw id k'.esz lo hi) e hl rfl rfl (fun ρ' hρ=>?_) (fun ρ' ρ'' he=>?_) rfl rfl hok (hs.one id) h1
       ·have hρ':ρ' j=ρ id:=hρ
        simp only[Sc.den,hρ']
       ·simp only[Sc.den,he]
      ·simp at e
     ·simp at e
    ·simp at e
   ·simp at e
end
def Sc.ren (f:Nat→Nat):Sc→Sc
 | .hp id o=> .hp (f id) o
 | .pe id a e i o=> .pe (f id) a e i o
 | .hs id=> .hs (f id)
 | .ve id e i o=> .ve (f id) e i o
 | .hw id z lo hi=> .hw (f id) z lo hi
 | .ha id o e lo hi c=> .ha (f id) o e lo hi c
 | .hm id=> .hm (f id)
 | .fn g caps=> .fn g (caps.map fun c=>(f c.1,c.2))
 | x=>x
def At.ren (f:Nat→Nat):At→At
 | .s x=> .s (x.ren f)
 | a=>a
def CV.ren (f:Nat→Nat):CV→CV
 | .s x=> .s (x.ren f)
 | .g l=> .g (l.map (At.ren f))
def XV.ren (f:Nat→Nat):XV→XV
 | .c v=> .c (v.ren f)
 | .t l=> .t (l.map (CV.ren f))
def lf (q:Nat) (τ:List Nat) (j:Nat):Nat:=if j < q then j else τ.getD (j - q) 0
structure bE (q:Nat) (r:LR) (v:XV) (h:bT):Prop where
 ex: ∃ τ:List Nat,τ.length=r.new.length∧τ.Nodup∧(∀ t,t∈τ→q≤t)∧(∀ ρ,v.den ρ=(r.val.ren (lf q τ)).den ρ)∧ ∀ (i t:Nat) (b:Blk),τ[i]? =some t→r.new[i]? =some b→ ∃ b',aN h t=some b'∧i5 b' b
def eH:List Blk→Nat→List Nat
 | [],_=>[]
 | b :: r,j=>if b.own then j :: eH r (j+1) else eH r (j+1)
structure iW (bs:List Blk) (r:LW) (v:XV) (h:bT):Prop where
 ex: ∃ τ:List Nat,τ.length=r.new.length∧τ.Nodup∧(∀ t,t∈τ→bs.length≤t)∧(∀ ρ,v.den ρ=(r.val.ren (lf bs.length τ)).den ρ)∧
  (∀ (i t:Nat) (b:Blk),τ[i]? =some t→r.new[i]? =some b→ ∃ b',aN h t=some b'∧i5 b' b)∧
  ∀ (i t:Nat) (b:Blk),(eH bs 0)[i]? =some t→r.wr[i]? =some b→ ∃ b',aN h t=some b'∧i5 b' b
theorem iW.pure {bs:List Blk} {r:LW} {v:XV} {h:bT} (hn:r.new=[]) (hv: ∀ ρ,v.den ρ=(r.val.ren (lf bs.length [])).den ρ)
  (hw: ∀ (i t:Nat) (b:Blk),(eH bs 0)[i]? =some t→r.wr[i]? =some b→ ∃ b',aN h t=some b'∧i5 b' b):iW bs r v h:=
 ⟨[],by simp[hn],by simp,by simp,hv,fun i t b ht=>by simp at ht,hw⟩
theorem bE.pure {q:Nat} {r:LR} {v:XV} {h:bT} (hn:r.new=[]) (hv: ∀ ρ,v.den ρ=(r.val.ren (lf q [])).den ρ):bE q r v h:=
 ⟨[],by simp[hn],by simp,by simp,hv,fun i t b ht=>by simp at ht⟩
theorem AJ {v:Value} {a c:Nat} (hv: ∃ b o,v= .pointer (some ⟨b,o,none⟩)):cF (cF v a) c=cF v (a+c):=by
 obtain⟨b,o,rfl⟩:=hv
 simp[cF,Addr.add_mid,Nat.add_assoc]
section
variable {ρ ρ2 ρ3:Rho} {n:Ids} {L m q:Nat} {σ:List Sc} {f:Nat→Nat}
theorem tD (hq:σ.length=q) (h1: ∀ j x,σ[j]? =some x→ρ2 (f j)=x.den ρ) (h2: ∀ j,q≤j→j < q+L→ρ3 (m+(j - q))=ρ2 (f j)) (hag:bZ n ρ ρ3)
  (hsc: ∀ x,x∈σ→anI n ρ x) {x y:Sc} {o:List Bool} (e:H4 aA L m q σ x=some (o,y)) (ho: ∀ b,b∈o→b=true) :
  y.den ρ3=(x.ren f).den ρ2∧iK (kZ n m L) ρ3 (.s y):=by
 have hnew: ∀ j,q≤j→j < q+L→kZ n m L (m+(j - q)):=fun j h1 h2=> .inr ⟨by omega,by omega⟩
 have hold: ∀ y:Sc,iK n ρ (.s y)→y.den ρ3=y.den ρ∧iK (kZ n m L) ρ3 (.s y):=fun y hy=>⟨hy ρ3 hag,(iK.move hy hag).mono fun i hi=> .inl hi⟩
 have hwst: ∀ {id z:Nat} {lo hi:Int},n id→iK n ρ (.s (.hw id z lo hi)):=fun hid ρ' ha=>by simp only[CV.den,Sc.den];rw[ha _ hid]
 cases x with
 | hp j off=>
  simp only[H4] at e
  split at e
  ·rename_i hj
   split at e
   ·rename_i hj'
    simp only[Option.some.injEq,Prod.mk.injEq] at e
    obtain⟨_,rfl⟩:=e
    refine⟨by simp only[Sc.ren,Sc.den,h2 j hj hj'],fun ρ' ha=>?_⟩
    simp only[CV.den,Sc.den];rw[ha _ (hnew j hj hj')]
   ·simp at e
  ·split at e
   ·rename_i id o' hx
    simp only[Option.some.injEq,Prod.mk.injEq] at e
    obtain⟨_,rfl⟩:=e
    obtain⟨g1,g2⟩:=hsc _ (List.mem_of_getElem? hx)
    have hst:iK n ρ (.s (.hp id (o'+off))):=fun ρ' ha=>by simp only[CV.den,Sc.den];rw[ha _ g1]
    refine⟨?_,(hold _ hst).2⟩
    rw[(hold _ hst).1]
    simp only[Sc.ren,Sc.den,h1 j _ hx]
    rw[AJ g2]
   ·simp at e
 | hs j=>
  simp only[H4] at e
  split at e
  ·rename_i hj
   split at e
   ·rename_i hj'
    simp only[Option.some.injEq,Prod.mk.injEq] at e
    obtain⟨_,rfl⟩:=e
    refine⟨by simp only[Sc.ren,Sc.den,h2 j hj hj'],fun ρ' ha=>?_⟩
    simp only[CV.den,Sc.den];rw[ha _ (hnew j hj hj')]
   ·simp at e
  ·split at e
   ·rename_i x hx
    simp only[Option.some.injEq,Prod.mk.injEq] at e
    obtain⟨_,rfl⟩:=e
    have g1:=(hsc _ (List.mem_of_getElem? hx)).stb
    refine⟨?_,(hold _ g1).2⟩
    rw[(hold _ g1).1]
    simp only[Sc.ren,Sc.den,h1 j _ hx]
   ·simp at e
 | hw j z lo hi=>
  simp only[H4] at e
  split at e
  ·rename_i hj
   split at e
   ·rename_i hj'
    simp only[Option.some.injEq,Prod.mk.injEq] at e
    obtain⟨_,rfl⟩:=e
    refine⟨by simp only[Sc.ren,Sc.den,h2 j hj hj'],fun ρ' ha=>?_⟩
    simp only[CV.den,Sc.den];rw[ha _ (hnew j hj hj')]
   ·simp at e
  ·split at e
   ·rename_i id hx
    simp only[Option.some.injEq,Prod.mk.injEq] at e
    obtain⟨_,rfl⟩:=e
    have g1:n id:=hsc _ (List.mem_of_getElem? hx)
    refine⟨?_,(hold _ (hwst g1)).2⟩
    rw[(hold _ (hwst g1)).1]
    simp only[Sc.ren,Sc.den,h1 j _ hx]
   ·rename_i id z' lo' hi' hx
    split at e
    ·rename_i hz
     simp only[Bool.and_eq_true,beq_iff_eq] at hz
     obtain⟨rfl,rfl⟩:=hz
     simp only[Option.some.injEq,Prod.mk.injEq] at e
     obtain⟨rfl,rfl⟩:=e
     simp only[List.forall_mem_cons,aA,aP,decide_eq_true_eq] at ho
     obtain⟨g0, -⟩:=ho
     obtain⟨g1,base,len,cap,g2,g3,g4,g5,g6⟩:=hsc _ (List.mem_of_getElem? hx)
     refine⟨?_,(hold _ (hwst g1)).2⟩
     rw[(hold _ (hwst g1)).1]
     have e1:(lo'+hi).toNat - lo'.toNat=hi.toNat:=by omega
     simp only[Sc.ren,Sc.den,h1 j _ hx,g2]
     simp only[aA,e1,Int.toNat_zero,Nat.sub_zero,Nat.zero_mul]
     congr 1
     by_cases hc:cap=lo'.toNat
     ·simp[hc]
     ·have:cap - lo'.toNat≠0:=by omega
      rw[if_neg hc,if_neg this]
      cases base with
      | none=>rfl
      | some a=>
       obtain⟨b,o,rfl⟩:=g6 a rfl
       simp[Addr.add_mid]
    ·simp at e
   ·rename_i hx
    simp only[Option.some.injEq,Prod.mk.injEq] at e
    obtain⟨rfl,rfl⟩:=e
    simp only[List.forall_mem_cons,aA,aP,decide_eq_true_eq] at ho
    obtain⟨g0,g1, -⟩:=ho
    refine⟨?_,fun _ _=>rfl⟩
    have e1:hi.toNat - lo.toNat=0:=by omega
    simp only[Sc.ren,Sc.den,h1 j _ hx,e1,Nat.zero_sub]
    simp
   ·simp at e
 | pe | ve | ha | hm | fn | un=>simp[H4,Sc.flat] at e
 | _=>
  simp only[H4,Sc.flat,if_true,Option.some.injEq,Prod.mk.injEq] at e
  obtain⟨_,rfl⟩:=e
  exact⟨rfl,fun _ _=>rfl⟩
theorem lF (hq:σ.length=q) (h1: ∀ j x,σ[j]? =some x→ρ2 (f j)=x.den ρ) (h2: ∀ j,q≤j→j < q+L→ρ3 (m+(j - q))=ρ2 (f j)) (hag:bZ n ρ ρ3)
  (hsc: ∀ x,x∈σ→anI n ρ x): ∀ {l y:List At} {o:List Bool},H3 aA L m q σ l=some (o,y)→(∀ b,b∈o→b=true)→
  aI ρ3 y=aI ρ2 (l.map (At.ren f))∧kY (kZ n m L) ρ3 y
 | [],y,o,e,ho=>by
  simp only[H3,Option.some.injEq,Prod.mk.injEq] at e
  obtain⟨_,rfl⟩:=e
  exact⟨rfl,fun _ _=>rfl⟩
 | a :: r,y,o,e,ho=>by
  have hother: ∀ (hn: ∀ x,a≠ .s x),(match H3 aA L m q σ r with
    | some (p,s)=>some (p,a :: s)
    | none=>none)=some (o,y)→aI ρ3 y=aI ρ2 ((a :: r).map (At.ren f))∧kY (kZ n m L) ρ3 y:=by
   intro hn e
   split at e
   ·rename_i p s hr
    simp only[Option.some.injEq,Prod.mk.injEq] at e
    obtain⟨rfl,rfl⟩:=e
    obtain⟨g1,g2⟩:=lF hq h1 h2 hag hsc hr ho
    have hc: ∀ ρ ρ',a.cells ρ=a.cells ρ':=fun ρ ρ'=>by cases a <;> first | rfl | exact absurd rfl (hn _)
    have hr:a.ren f=a:=by cases a <;> first | rfl | exact absurd rfl (hn _)
    refine⟨by simp only[List.map_cons,aI,g1,hr,hc ρ3 ρ2],fun ρ' ha=>?_⟩
    simp only[aI,g2 ρ' ha,hc ρ' ρ3]
   ·simp at e
  cases a with
  | s x=>
   simp only[H3] at e
   split at e
   ·rename_i o1 y1 p s hx hr
    simp only[Option.some.injEq,Prod.mk.injEq] at e
    obtain⟨rfl,rfl⟩:=e
    obtain⟨g1,g2⟩:=lF hq h1 h2 hag hsc hr fun b hb=>ho b (by simp[hb])
    obtain⟨g3,g4⟩:=tD hq h1 h2 hag hsc hx fun b hb=>ho b (by simp[hb])
    refine⟨by simp only[List.map_cons,aI,At.cells,At.ren,g1,g3],fun ρ' ha=>?_⟩
    have g5:y1.den ρ'=y1.den ρ3:=g4 ρ' ha
    simp only[aI,At.cells,g2 ρ' ha,g5]
   ·simp at e
  | D d=>exact hother (fun _ h=>by cases h) e
  | W d=>exact hother (fun _ h=>by cases h) e
  | R d=>exact hother (fun _ h=>by cases h) e
  | P d=>exact hother (fun _ h=>by cases h) e
theorem tE (hq:σ.length=q) (h1: ∀ j x,σ[j]? =some x→ρ2 (f j)=x.den ρ) (h2: ∀ j,q≤j→j < q+L→ρ3 (m+(j - q))=ρ2 (f j)) (hag:bZ n ρ ρ3)
  (hsc: ∀ x,x∈σ→anI n ρ x) {x y:CV} {o:List Bool} (e:Oj aA L m q σ x=some (o,y)) (ho: ∀ b,b∈o→b=true) :
  y.den ρ3=(x.ren f).den ρ2∧iK (kZ n m L) ρ3 y:=by
 cases x with
 | s x=>
  simp only[Oj] at e
  split at e
  ·rename_i o1 y1 hx
   simp only[Option.some.injEq,Prod.mk.injEq] at e
   obtain⟨rfl,rfl⟩:=e
   exact tD hq h1 h2 hag hsc hx ho
  ·simp at e
 | g l=>
  simp only[Oj] at e
  split at e
  ·rename_i o1 y1 hx
   simp only[Option.some.injEq,Prod.mk.injEq] at e
   obtain⟨rfl,rfl⟩:=e
   obtain⟨g1,g2⟩:=lF hq h1 h2 hag hsc hx ho
   exact⟨by simp only[CV.den,CV.ren,g1],fun ρ' ha=>by simp only[CV.den,g2 ρ' ha]⟩
  ·simp at e
theorem rG (hq:σ.length=q) (h1: ∀ j x,σ[j]? =some x→ρ2 (f j)=x.den ρ) (h2: ∀ j,q≤j→j < q+L→ρ3 (m+(j - q))=ρ2 (f j)) (hag:bZ n ρ ρ3)
  (hsc: ∀ x,x∈σ→anI n ρ x): ∀ {l y:List CV} {o:List Bool},Ec aA L m q σ l=some (o,y)→(∀ b,b∈o→b=true)→
  y.map (CV.den ρ3)=(l.map (CV.ren f)).map (CV.den ρ2)∧ ∀ ρ',bZ (kZ n m L) ρ3 ρ'→y.map (CV.den ρ')=y.map (CV.den ρ3)
 | [],y,o,e,ho=>by
  simp only[Ec,Option.some.injEq,Prod.mk.injEq] at e
  obtain⟨_,rfl⟩:=e
  exact⟨rfl,fun _ _=>rfl⟩
 | x :: r,y,o,e,ho=>by
  simp only[Ec] at e
  split at e
  ·rename_i o1 y1 p s hx hr
   simp only[Option.some.injEq,Prod.mk.injEq] at e
   obtain⟨rfl,rfl⟩:=e
   obtain⟨g1,g2⟩:=rG hq h1 h2 hag hsc hr fun b hb=>ho b (by simp[hb])
   obtain⟨g3,g4⟩:=tE hq h1 h2 hag hsc hx fun b hb=>ho b (by simp[hb])
   exact⟨by simp only[List.map_cons,g1,g3],fun ρ' ha=>by simp only[List.map_cons,g2 ρ' ha,g4 ρ' ha]⟩
  ·simp at e
theorem oL (hq:σ.length=q) (h1: ∀ j x,σ[j]? =some x→ρ2 (f j)=x.den ρ) (h2: ∀ j,q≤j→j < q+L→ρ3 (m+(j - q))=ρ2 (f j)) (hag:bZ n ρ ρ3)
  (hsc: ∀ x,x∈σ→anI n ρ x) {x y:XV} {o:List Bool} (e:Mq aA L m q σ x=some (o,y)) (ho: ∀ b,b∈o→b=true) :
  y.den ρ3=(x.ren f).den ρ2∧nT (kZ n m L) ρ3 y:=by
 cases x with
 | c x=>
  simp only[Mq] at e
  split at e
  ·rename_i o1 y1 hx
   simp only[Option.some.injEq,Prod.mk.injEq] at e
   obtain⟨rfl,rfl⟩:=e
   exact tE hq h1 h2 hag hsc hx ho
  ·simp at e
 | t l=>
  simp only[Mq] at e
  split at e
  ·rename_i o1 y1 hx
   simp only[Option.some.injEq,Prod.mk.injEq] at e
   obtain⟨rfl,rfl⟩:=e
   obtain⟨g1,g2⟩:=rG hq h1 h2 hag hsc hx ho
   exact⟨by simp only[XV.den,XV.ren,g1],fun ρ' ha=>by simp only[XV.den,g2 ρ' ha]⟩
  ·simp at e
end
theorem jQ: ∀ (l:List Blk) (j i:Nat),aN (gR l j) i=if j≤i then l[i - j]? else none
 | [],j,i=>by simp[gR,aN]
 | b :: r,j,i=>by
  simp only[gR,aN]
  by_cases h:j=i
  ·subst h;simp
  ·have:(j == i)=false:=by simp[h]
   rw[this,if_neg (by simp),jQ r (j+1) i]
   by_cases h2:j+1≤i
   ·rw[if_pos h2,if_pos (by omega),show i - j=(i - (j+1))+1 from by omega];rfl
   ·rw[if_neg h2,if_neg (by omega)]
theorem kJ: ∀ {l:List Blk},DB l=true→ ∀ b,b∈l→b.own=true∧b.flat=true
 | [],_,b,hb=>by simp at hb
 | a :: r,h,b,hb=>by
  simp only[DB,Bool.and_eq_true] at h
  obtain⟨⟨h1,h2⟩,h3⟩:=h
  simp only[List.mem_cons] at hb
  rcases hb with rfl | hb
  ·refine⟨?_,h2⟩
   split at h1
   ·rfl
   ·rfl
   ·cases h1
  ·exact kJ h3 b hb
theorem Ea {c c':eJ} {y x:Sc} {b:Blk} {ob:List Bool} {id:Nat} (e:c.rd y b x ob id=some c'):c'.args.length=c.args.length+1:=by
 unfold eJ.rd at e
 split at e
 ·simp at e
 ·simp only[Option.some.injEq] at e;subst e;rfl
theorem BX {c c':eJ} {y x:Sc} {b:Blk} {ob:List Bool} {id j:Nat} (e:c.wrt y b x ob id j=some c'):c'.args.length=c.args.length+1:=by
 unfold eJ.wrt at e
 split at e
 ·simp at e
 ·simp only[Option.some.injEq] at e;subst e;rfl
theorem v4 {A:Alg} {h:bT} : ∀ {ds:List PD} {xs:List CV} {j:Nat} {c:eJ},dF A h ds xs j=some c→c.args.length=ds.length
 | [],[],j,c,e=>by simp only[dF,Option.some.injEq] at e;subst e;rfl
 | [],_ :: _,_,_,e=>by simp[dF] at e
 | _ :: _,[],_,_,e=>by simp[dF] at e
 | d :: ds,x :: xs,j,c,e=>by
  cases d <;> simp only[dF] at e <;> repeat' split at e
  all_goals first
   |(simp at e;done)
   |(rename_i hc;rw[Ea e,v4 hc];rfl)
   |(rename_i hc;rw[BX e,v4 hc];rfl)
   |(rename_i hc;simp only[Option.some.injEq] at e;subst e;simp[v4 hc])
theorem wB: ∀ {l:List Nat},l.Nodup→ ∀ {i j:Nat} (hi:i < l.length) (hj:j < l.length),l[i]=l[j]→i=j
 | [],_,i,j,hi,_,_=>by simp at hi
 | a :: r,h,i,j,hi,hj,e=>by
  rw[List.nodup_cons] at h
  cases i with
  | zero=>cases j with
   | zero=>rfl
   | succ j=>simp at e;exact absurd (e ▸ List.getElem_mem _) h.1
  | succ i=>cases j with
   | zero=>simp at e;exact absurd (e ▸ List.getElem_mem _) h.1
   | succ j=>simp at e hi hj;rw[wB h.2 hi hj e]
def iY (c:eJ) (ρ:Rho):jH:=⟨fun y=> ∃ (i:Nat) (x:Sc) (b:Blk),c.sc[i]? =some x∧c.heap[i]? =some b∧b.own=true∧bK (x.den ρ)=some y,fun i=>i < c.sc.length,fun i=>match c.sc[i]? with
 | some x=>x.den ρ
 | none=> .pointer none,fun y=> ∃ (i:Nat) (x:Sc),c.sc[i]? =some x∧bK (x.den ρ)=some y⟩
section
variable {P:Program} {T:Nat→Option TI} {C:Nat→Option bU}
theorem HS.enter {w0:World} {Wr:jH} {h:bT} {w:World} {ρ:Rho} {n:Ids} {c:eJ} {xs:List CV} (hc:lM w0 Wr h w ρ n c xs 0):HS w (iY c ρ) (iY c ρ).rho (gR c.heap 0) (fun i=>i < c.sc.length) w:=by
 have hx: ∀ i b,aN (gR c.heap 0) i=some b→ ∃ x,c.sc[i]? =some x∧c.heap[i]? =some b:=fun i b h=>by
  rw[jQ,if_pos (Nat.zero_le _),Nat.sub_zero] at h
  obtain⟨h1,_⟩:=List.getElem?_eq_some_iff.1 h
  rw[hc.len] at h1
  exact⟨c.sc[i],List.getElem?_eq_getElem h1,h⟩
 have hr: ∀ i x,c.sc[i]? =some x→(iY c ρ).rho i=x.den ρ:=fun i x h=>by simp only[iY,h]
 exact {
  one:=fun i=>by
   cases h:c.sc[i]? with
   | none=>simp only[iY,h];rfl
   | some x=>
    rw[hr i x h]
    obtain⟨h1,_⟩:=List.getElem?_eq_some_iff.1 h
    rw[← hc.len] at h1
    exact(hc.blk i x _ h (List.getElem?_eq_getElem h1)).2.2.2
  ok:=fun i b h=>by
   obtain⟨x,h1,h2⟩:=hx i b h
   obtain⟨g1,g2,g3,g4⟩:=hc.blk i x b h1 h2
   rw[hr i x h1]
   exact⟨(List.getElem?_eq_some_iff.1 h1).1,Blk.flat_ok g2 _ g3,Blk.flat_stb g2 _ _⟩
  sep:=fun i b j c' hi hj hij ho _ y hy=>by
   obtain⟨x,h1,h2⟩:=hx i b hi
   obtain⟨x',h3,h4⟩:=hx j c' hj
   rw[hr i x h1] at hy
   rw[hr j x' h3]
   exact hc.sep i x b j x' h1 h2 h3 hij ho y hy
  wr:=fun i b y h ho hy=>by
   obtain⟨x,h1,h2⟩:=hx i b h
   rw[hr i x h1] at hy
   exact .inr ⟨i,x,b,h1,h2,ho,hy⟩
  org:=fun i b y h ho hy=>by
   obtain⟨x,h1,h2⟩:=hx i b h
   rw[hr i x h1] at hy
   exact .inr (.inr ⟨i,x,h1,hy⟩)
  frame:=fun _ _ _=>rfl
  os:=rfl
  tape:=rfl
  output:=rfl
  drawn:=Nat.le_refl _
  size:=Nat.le_refl _
  ag:=bZ.refl _ _
  inn:=fun _ h=>h }
theorem AF: ∀ {l:List (Nat×Nat)} {bs:List Blk} {wr:bT},Mh l bs=some wr→wr.map (·.1)=l.map (·.2)∧ ∀ (i:Nat) (p:Nat×Nat),l[i]? =some p→ ∃ b,bs[i]? =some b∧wr[i]? =some (p.2,b)
 | [],[],wr,h=>by simp only[Mh,Option.some.injEq] at h;subst h;exact⟨rfl,fun i p h=>by simp at h⟩
 | [],_ :: _,_,h=>by simp[Mh] at h
 | _ :: _,[],_,h=>by simp[Mh] at h
 |(q,id) :: r,b :: bs,wr,h=>by
  simp only[Mh] at h
  split at h
  ·rename_i h' hh
   simp only[Option.some.injEq] at h
   subst h
   obtain⟨g1,g2⟩:=AF hh
   refine⟨by simp[g1],fun i p hp=>?_⟩
   cases i with
   | zero=>simp at hp;subst hp;exact⟨b,rfl,rfl⟩
   | succ i=>exact g2 i p (by simpa using hp)
  ·simp at h
theorem kK {A:Alg} {h:bT} : ∀ {ds:List PD} {xs:List CV} {j:Nat} {c:eJ},dF A h ds xs j=some c→eH c.heap j=c.wi.map (·.1)
 | [],[],j,c,e=>by simp only[dF,Option.some.injEq] at e;subst e;rfl
 | [],_ :: _,_,_,e=>by simp[dF] at e
 | _ :: _,[],_,_,e=>by simp[dF] at e
 | d :: ds,x :: xs,j,c,e=>by
  have hrd: ∀ {c c':eJ} {y x:Sc} {b:Blk} {ob:List Bool} {id:Nat},eH c.heap (j+1)=c.wi.map (·.1)→b.own=false→c.rd y b x ob id=some c'→eH c'.heap j=c'.wi.map (·.1):=fun {c c' y x b ob id} ih hb e=>by
   unfold eJ.rd at e
   split at e
   ·simp at e
   ·simp only[Option.some.injEq] at e;subst e
    simp only[eH,hb,Bool.false_eq_true,if_false];exact ih
  have hwrt: ∀ {c c':eJ} {y x:Sc} {b:Blk} {ob:List Bool} {id:Nat},eH c.heap (j+1)=c.wi.map (·.1)→b.own=true→c.wrt y b x ob id j=some c'→eH c'.heap j=c'.wi.map (·.1):=fun {c c' y x b ob id} ih hb e=>by
   unfold eJ.wrt at e
   split at e
   ·simp at e
   ·simp only[Option.some.injEq] at e;subst e
    simp only[eH,hb,if_true,List.map_cons,ih]
  cases d <;> simp only[dF] at e <;> repeat' split at e
  all_goals first
   |(simp at e;done)
   |(rename_i hc;exact hrd (kK hc) rfl e)
   |(rename_i hc;exact hwrt (kK hc) rfl e)
   |(rename_i hc;simp only[Option.some.injEq] at e;subst e;exact kK hc)
   |(rename_i hc;simp only[Option.some.injEq] at e;subst e;simp only[eH,Blk.own,Bool.false_eq_true,if_false];exact kK hc)
theorem eC: ∀ {l:bT} {i id:Nat} {b:Blk},(l.map (·.1)).Nodup→l[i]? =some (id,b)→aN l id=some b
 | [],i,_,_,_,h=>by simp at h
 |(j,c) :: r,i,id,b,hn,h=>by
  simp only[List.map_cons,List.nodup_cons] at hn
  cases i with
  | zero=>simp at h;obtain⟨rfl,rfl⟩:=h;simp[aN]
  | succ i=>
   have h':r[i]? =some (id,b):=by simpa using h
   have hne:(j == id)=false:=by
    simp only[beq_eq_false_iff_ne,ne_eq]
    intro e
    subst e
    exact hn.1 (List.mem_map.2 ⟨_,List.mem_of_getElem? h',rfl⟩)
   simp only[aN,hne,Bool.false_eq_true,if_false]
   exact eC hn.2 h'
theorem jM {α:Type} : ∀ {l:List (Nat×α)} {id:Nat} {b:α},aN l id=some b→ ∃ i:Nat,l[i]? =some (id,b)
 | [],_,_,h=>by simp[aN] at h
 |(j,c) :: r,id,b,h=>by
  simp only[aN] at h
  split at h
  ·rename_i hj
   simp only[beq_iff_eq] at hj
   simp only[Option.some.injEq] at h
   subst hj h
   exact⟨0,rfl⟩
  ·obtain⟨i,hi⟩:=jM h
   exact⟨i+1,by simpa using hi⟩
theorem cT (hT:TOK P T) (hC:COK P C) (hm:P.follows .mixedOrders=true) {f:Nat} {fn:Func}
  {ds:List PD} {g:List CV→List Blk→Option LW} {un:Md}
  (hrun: ∀ (w:World) (Wr:jH) (args:List CV) (bs:List Blk) (r:LW),g args bs=some r→(∀ b,b∈r.ob→b=true)→(∀ i,Wr.ids i→i < bs.length)→
   ∀ (A:Alg) (L:Code→St→(Exit→St→Prop)→Prop) (k:XV→bT→Prop),A=aA→(∀ c s k,gI P (cx0 fn.ntmps T C) w Wr c s k→L c s k)→(∀ v h,iW bs r v h→k v h)→
    G5 ⟨0,A,T,C,un,L⟩ fn args (gR bs 0) bs.length k) (hf:P.funcs[f]? =some fn:=by kernel_rfl) (hn:fn.body.isNone=false:=by kernel_rfl) (hnm:(fn.name == "runtime.NumGoroutine")=false:=by kernel_rfl) (hN:ds.length≤fn.ntmps:=by decide +kernel):aJ P f (cM ds aA g) where
 enters args w:=by
  unfold callFunc
  simp only[Sem.run_bind,run_program,Result.andThen_ok,hf]
  rw[if_neg (by rw[hnm];simp),if_neg (by rw[hn];simp)]
  rfl
 calls n m args h r hlt hr hob w0 Wr ρ w hs hargs:=by
  unfold cM at hr
  split at hr
  ·rename_i c hcan
   split at hr
   ·rename_i rr hg
    split at hr
    ·rename_i hnews
     simp only[Bool.and_eq_true] at hnews
     obtain⟨hnew,hnwr⟩:=hnews
     split at hr
     ·rename_i o y wr hy hwr
      simp only[Option.some.injEq] at hr
      subst hr
      have ho1: ∀ b,b∈c.ob→b=true:=fun b hb=>hob b (by simp[hb])
      have ho2: ∀ b,b∈rr.ob→b=true:=fun b hb=>hob b (by simp[hb])
      have ho3: ∀ b,b∈o→b=true:=fun b hb=>hob b (by simp[hb])
      have hc:=cB rfl hs hcan ho1
      have hlen:=v4 hcan
      have hidx:=kK hcan
      obtain⟨hwm,hwg⟩:=AF hwr
      have hwn:(wr.map (·.1)).Nodup:=by rw[hwm];exact hc.nod
      have hentry:=HS.enter hc
      have hr0: ∀ i x,c.sc[i]? =some x→(iY c ρ).rho i=x.den ρ:=fun i x h=>by simp only[iY,h]
      have hcall:=uE (un:=un) hT hC hm hf hentry (fun v hv=>(hc.stb v hv _).mono fun i hi=>by omega) (fun i hi=>by rw[hc.len];exact hi) (by rw[hlen];exact hN) (R:=iW c.heap rr)
       (hrun w (iY c ρ) c.args c.heap rr hg ho2 (fun i hi=>by rw[hc.len];exact hi))
      rw[hc.args _ (fun i x hx=>by rw[Nat.zero_add];exact hr0 i x hx)] at hcall
      refine hcall.mono fun e w' ⟨v,ρ2,n2,h2,hgood,he,hst,hs2⟩=>?_
      obtain⟨τ,t1,t2,t2',t3,t4,t5⟩:=hgood.ex
      have hq:c.heap.length=c.sc.length:=hc.len
      rw[hq] at t3 t2'
      have hWr: ∀ y,(iY c ρ).wr y→xB ρ wr y:=fun y ⟨i,x,b,h1,h2,h3,h4⟩=>by
       obtain⟨id,k,g1,g2,g3,g4⟩:=hc.own i x b h1 h2 h3
       obtain⟨q,hq'⟩:=List.getElem?_of_mem g1
       obtain⟨b',u1,u2⟩:=hwg q _ hq'
       exact⟨id,b',List.mem_of_getElem? u2,by rw[← g4];exact h4⟩
      have hbut:But (xB ρ wr) w w':=⟨hs2.os,hs2.tape,hs2.output,hs2.drawn,hs2.size,fun x hx hnw=>hs2.frame x hx fun hw=>hnw (hWr x hw)⟩
      let ρ3:Rho:=fun i=>if m≤i∧i < m+rr.new.length then ρ2 (τ.getD (i - m) 0) else ρ i
      have hag:bZ n ρ ρ3:=fun i hi=>by have:=hlt i hi;show ite _ _ _=_;rw[if_neg (by omega)]
      have hold: ∀ i,n i→ρ3 i=ρ i:=fun i hi=>hag i hi
      have hnewr: ∀ q,q < rr.new.length→ρ3 (m+q)=ρ2 (τ.getD q 0):=fun q hq=>by
       show ite _ _ _=_
       rw[if_pos ⟨by omega,by omega⟩,show m+q - m=q from by omega]
      obtain⟨y1,y2⟩:=oL (ρ2:=ρ2) (ρ3:=ρ3) (f:=lf c.sc.length τ) (n:=n) (q:=c.sc.length) rfl (fun j x hx=>by
        have hj:=(List.getElem?_eq_some_iff.1 hx).1
        simp only[lf,if_pos hj]
        rw[hs2.ag j hj,hr0 j x hx]) (fun j h1 h2=>by
        rw[hnewr _ (by omega)]
        simp only[lf,if_neg (show ¬ j < c.sc.length by omega)]) hag hc.scs hy ho3
      have hτ: ∀ q b,rr.new[q]? =some b→ ∃ t,τ[q]? =some t∧τ.getD q 0=t∧c.sc.length≤t∧ ∃ b',aN h2 t=some b'∧i5 b' b:=fun q b hb=>by
       have h1:=(List.getElem?_eq_some_iff.1 hb).1
       rw[← t1] at h1
       exact⟨τ[q],List.getElem?_eq_getElem h1,by simp[List.getD,List.getElem?_eq_getElem h1],t2' _ (List.getElem_mem h1),t4 q _ b (List.getElem?_eq_getElem h1) hb⟩
      have hwr2: ∀ i b,aN wr i=some b→ ∃ t b' k,t < c.sc.length∧aN h2 t=some b'∧i5 b' b∧b.own=true∧b.flat=true∧ρ2 t=ρ i∧aN h i=some k∧k.own=true:=fun i b hb=>by
       obtain⟨q,hq'⟩:=jM hb
       have hql:q < wr.length:=(List.getElem?_eq_some_iff.1 hq').1
       have hwl:wr.length=c.wi.length:=by have:=congrArg List.length hwm;simpa using this
       have hp: ∃ p,c.wi[q]? =some p:=⟨_,List.getElem?_eq_getElem (by omega)⟩
       obtain⟨⟨t,id⟩,hp⟩:=hp
       obtain⟨b1,u1,u2⟩:=hwg q _ hp
       rw[hq'] at u2
       simp only[Option.some.injEq,Prod.mk.injEq] at u2
       obtain⟨rfl,rfl⟩:=u2
       have hix:(eH c.heap 0)[q]? =some t:=by rw[hidx];simp[hp]
       obtain⟨b',v1,v2⟩:=t5 q t b hix u1
       obtain⟨_,i',x,b2,k,e1,e2,e3,e4,e5,e6,e7⟩:=hc.wis t i (List.mem_of_getElem? hp)
       rw[Nat.zero_add] at e1
       subst e1
       have hj:=(List.getElem?_eq_some_iff.1 e2).1
       obtain⟨o1,o2⟩:=kJ hnwr b (List.mem_of_getElem? u1)
       exact⟨t,b',k,hj,v1,v2,o1,o2,by rw[hs2.ag t hj,hr0 t x e2,e7],e5,e6⟩
      have hlook: ∀ i b,aN (rT (oS h wr) m rr.new) i=some b→(∃ q,i=m+q∧q < rr.new.length∧rr.new[q]? =some b)∨
        (¬ (m≤i∧i < m+rr.new.length)∧((aN wr i=some b∧ ∃ k,aN h i=some k)∨(aN wr i=none∧aN h i=some b))):=fun i b hb=>by
       rw[gB] at hb
       split at hb
       ·rename_i hi;exact .inl ⟨i - m,by omega,by omega,hb⟩
       ·rename_i hi
        rw[gS wr h i hwn] at hb
        split at hb
        ·rename_i c' hc'
         cases hk:aN h i with
         | none=>rw[hk] at hb;cases hb
         | some k=>rw[hk] at hb;simp only[Option.map_some,Option.some.injEq] at hb;subst hb;exact .inr ⟨hi, .inl ⟨hc',k,rfl⟩⟩
        ·rename_i hc';exact .inr ⟨hi, .inr ⟨hc',hb⟩⟩
      have hfresh: ∀ q b x,rr.new[q]? =some b→bK (ρ3 (m+q))=some x→w.heap.size≤x:=fun q b x hb hx=>by
       obtain⟨t,g1,g2,g2',b',g3,g4⟩:=hτ q b hb
       rw[hnewr q (List.getElem?_eq_some_iff.1 hb).1,g2] at hx
       have hbo:=(kJ hnew b (List.mem_of_getElem? hb)).1
       rcases hs2.wr t b' x g3 (by rw[g4.own];exact hbo) hx with h | ⟨i,x',b1,h1,h2',h3,h4⟩
       ·exact h
       ·exfalso
        obtain⟨id,k,e1,e2,e3,e4⟩:=hc.own i x' b1 h1 h2' h3
        rw[Nat.zero_add] at e1
        obtain⟨p,hp⟩:=List.getElem?_of_mem e1
        obtain⟨b2,u1,u2⟩:=hwg p _ hp
        have hix:(eH c.heap 0)[p]? =some i:=by rw[hidx];simp[hp]
        obtain⟨b3,v1,v2⟩:=t5 p i b2 hix u1
        have hil:=(List.getElem?_eq_some_iff.1 h1).1
        have hb3:b3.own=true:=by rw[v2.own];exact(kJ hnwr b2 (List.mem_of_getElem? u1)).1
        refine hs2.sep i b3 t b' v1 g3 (by omega) hb3 (Blk.live_own (by rw[g4.own];exact hbo)) x ?_ hx
        rw[hs2.ag i hil,hr0 i x' h1];exact h4
      have holdx: ∀ i b x,aN h i=some b→bK (ρ i)=some x→x < w.heap.size:=fun i b x hb hx=>Blk.block (hs.ok i b hb).2.1 hx
      have hkeep: ∀ i b,aN wr i=none→aN h i=some b→b.live=true→ ∀ x,bK (ρ i)=some x→w'.heap[x]? =w.heap[x]? :=fun i b hw hb hl x hx=>by
       refine hbut.block x (holdx i b x hb hx) fun⟨id,b1,g1,g2⟩=>?_
       obtain⟨p,hp⟩:=List.getElem?_of_mem g1
       have hlw:=eC hwn hp
       obtain⟨t,b',k,e1,e2,e3,e4,e5,e6,e7,e8⟩:=hwr2 id b1 hlw
       have hne:id≠i:=fun e=>by subst e;rw[hw] at hlw;cases hlw
       exact hs.sep id k i b e7 hb hne e8 hl x g2 hx
      refine⟨v.den ρ2,he,ρ3,hag,by rw[t3,y1],y2,?_,hbut,fun i x g1 g2 hx=> .inl ?_⟩
      ·refine { one:=fun i=>?_,ok:=fun i b hl=>?_,sep:=fun i b j b2 hi hj hij ho hlv x hx hx2=>?_,wr:=fun i b x hi ho hx=>?_,org:=fun i b x hi hlv hx=>?_,frame:=fun x h1 h2=>?_,drawn:=Nat.le_trans hs.drawn hbut.drawn,os:=hbut.os.trans hs.os,tape:=hbut.tape.trans hs.tape,output:=hbut.output.trans hs.output,size:=Nat.le_trans hs.size hbut.size,ag:=hs.ag.trans hag hs.inn,inn:=fun i hi=> .inl (hs.inn i hi) }
       ·show(ite _ _ _:Value).oneCell'=true
        split
        ·exact hs2.one _
        ·exact hs.one _
       ·rcases hlook i b hl with ⟨q,rfl,hq,hb2⟩ | ⟨hi,⟨hw,k,hk⟩ | ⟨hw,hl⟩⟩
        ·obtain⟨t,g1,g2,_,b',g3,g4⟩:=hτ q b hb2
         obtain⟨g5,g6⟩:=kJ hnew b (List.mem_of_getElem? hb2)
         rw[hnewr q hq,g2]
         exact⟨show kZ n m rr.new.length _ from .inr ⟨by omega,by omega⟩,Blk.flat_ok g6 _ (g4.ok (hs2.ok t b' g3).2.1),Blk.flat_stb g6 _ _⟩
        ·obtain⟨t,b',k',e1,e2,e3,e4,e5,e6,e7,e8⟩:=hwr2 i b hw
         have hni:=(hs.ok i k hk).1
         rw[hold i hni]
         refine⟨.inl hni,?_,Blk.flat_stb e5 _ _⟩
         have:=e3.ok (hs2.ok t b' e2).2.1
         rw[e6] at this
         exact Blk.flat_ok e5 _ this
        ·obtain⟨g1,g2,g3⟩:=hs.ok i b hl
         rw[hold i g1]
         refine⟨.inl g1,?_,Blk.stb_move g3 hag fun _ hi=> .inl hi⟩
         by_cases hlv:b.live=true
         ·exact Blk.ok_move g3 hag (Blk.ok_of_block hbut.size (fun x hx=>hkeep i b hw hl hlv x hx) g2)
         ·cases b with
          | gone=>exact fun x hx=>Nat.lt_of_lt_of_le (g2 x hx) hbut.size
          | fix=>exact absurd rfl hlv
          | vec=>exact absurd rfl hlv
       ·
         have hbef: ∀ i b,aN (oS h wr) i=some b→ ∃ k,aN h i=some k∧(b.own=true→k.own=true)∧(b.live=true→k.live=true):=fun i b hb=>by
          rw[gS wr h i hwn] at hb
          split at hb
          ·rename_i c' hc'
           cases hk:aN h i with
           | none=>rw[hk] at hb;cases hb
           | some k=>
            obtain⟨t,b',k',e1,e2,e3,e4,e5,e6,e7,e8⟩:=hwr2 i c' hc'
            rw[hk] at e7
            simp only[Option.some.injEq] at e7
            subst e7
            exact⟨k,rfl,fun _=>e8,fun _=>Blk.live_own e8⟩
          ·exact⟨b,hb,id,id⟩
         have hlook2: ∀ i b,aN (rT (oS h wr) m rr.new) i=some b→(∃ q,i=m+q∧q < rr.new.length∧rr.new[q]? =some b)∨(¬ (m≤i∧i < m+rr.new.length)∧aN (oS h wr) i=some b):=fun i b hb=>by
          rw[gB] at hb
          split at hb
          ·rename_i hi;exact .inl ⟨i - m,by omega,by omega,hb⟩
          ·rename_i hi;exact .inr ⟨hi,hb⟩
         rcases hlook2 i b hi with ⟨q,rfl,hq,hb2⟩ | ⟨hi,hl⟩
         ·have hx3:=hfresh q b x hb2 hx
          rcases hlook2 j b2 hj with ⟨q',rfl,hq',hb3⟩ | ⟨hj,hl'⟩
          ·obtain⟨t,g1,g2,_,b',g3,g4⟩:=hτ q b hb2
           obtain⟨t',g1',g2',_,b'',g3',g4'⟩:=hτ q' b2 hb3
           rw[hnewr q hq,g2] at hx
           rw[hnewr q' hq',g2'] at hx2
           have hne:t≠t':=fun e=>by
            subst e
            have hq1:q < τ.length:=by omega
            have hq2:q' < τ.length:=by omega
            have e1:τ[q]=τ[q']:=by
             rw[List.getElem?_eq_getElem hq1] at g1
             rw[List.getElem?_eq_getElem hq2] at g1'
             simp only[Option.some.injEq] at g1 g1'
             rw[g1,g1']
            have:=wB t2 hq1 hq2 e1
            omega
           exact hs2.sep t b' t' b'' g3 g3' hne (by rw[g4.own];exact ho) (by rw[g4'.live];exact hlv) x hx hx2
          ·obtain⟨k,e1,e2,e3⟩:=hbef j b2 hl'
           rw[hold j (hs.ok j k e1).1] at hx2
           have:=holdx j k x e1 hx2
           omega
         ·obtain⟨k,e1,e2,e3⟩:=hbef i b hl
          rw[hold i (hs.ok i k e1).1] at hx
          have hx3:=holdx i k x e1 hx
          rcases hlook2 j b2 hj with ⟨q',rfl,hq',hb3⟩ | ⟨hj,hl'⟩
          ·have:=hfresh q' b2 x hb3 hx2
           omega
          ·obtain⟨k',f1,f2,f3⟩:=hbef j b2 hl'
           rw[hold j (hs.ok j k' f1).1] at hx2
           exact hs.sep i k j k' e1 f1 hij (e2 ho) (f3 hlv) x hx hx2
       ·rcases hlook i b hi with ⟨q,rfl,hq,hb2⟩ | ⟨hi,⟨hw,k,hk⟩ | ⟨hw,hl⟩⟩
        ·have:=hfresh q b x hb2 hx
         have:=hs.size
         exact .inl (by omega)
        ·obtain⟨t,b',k',e1,e2,e3,e4,e5,e6,e7,e8⟩:=hwr2 i b hw
         rw[hold i (hs.ok i k hk).1] at hx
         exact hs.wr i k' x e7 e8 hx
        ·rw[hold i (hs.ok i b hl).1] at hx
         exact hs.wr i b x hl ho hx
       ·rcases hlook i b hi with ⟨q,rfl,hq,hb2⟩ | ⟨hi,⟨hw,k,hk⟩ | ⟨hw,hl⟩⟩
        ·have:=hfresh q b x hb2 hx
         have:=hs.size
         exact .inl (by omega)
        ·obtain⟨t,b',k',e1,e2,e3,e4,e5,e6,e7,e8⟩:=hwr2 i b hw
         rw[hold i (hs.ok i k hk).1] at hx
         exact hs.org i k' x e7 (Blk.live_own e8) hx
        ·rw[hold i (hs.ok i b hl).1] at hx
         exact hs.org i b x hl hlv hx
       ·have hnw: ¬ xB ρ wr x:=fun⟨id,b1,g1,g2⟩=>by
         obtain⟨p,hp⟩:=List.getElem?_of_mem g1
         have hlw:=eC hwn hp
         obtain⟨t,b',k,e1,e2,e3,e4,e5,e6,e7,e8⟩:=hwr2 id b1 hlw
         rcases hs.wr id k x e7 e8 g2 with h3 | h3
         ·omega
         ·exact h2 h3
        rw[hbut.block x (Nat.lt_of_lt_of_le h1 hs.size) hnw]
        exact hs.frame x h1 h2
      ·have: ∃ b,rr.new[i - m]? =some b:=⟨_,List.getElem?_eq_getElem (by simp only at g2;omega)⟩
       obtain⟨b,hb2⟩:=this
       exact hfresh (i - m) b x hb2 (by rw[show m+(i - m)=i from by omega];exact hx)
     ·simp at hr
    ·simp at hr
   ·simp at hr
  ·simp at hr
theorem aH (hT:TOK P T) (hC:COK P C) (hm:P.follows .mixedOrders=true) {f:Nat} {fn:Func}
  {ds:List PD} {g:List CV→List Blk→Option LR} {un:Md}
  (hrun: ∀ (w:World) (Wr:jH) (args:List CV) (bs:List Blk) (r:LR),g args bs=some r→(∀ b,b∈r.ob→b=true)→(∀ i,Wr.ids i→i < bs.length)→
   ∀ (A:Alg) (L:Code→St→(Exit→St→Prop)→Prop) (k:XV→bT→Prop),A=aA→(∀ c s k,gI P (cx0 fn.ntmps T C) w Wr c s k→L c s k)→(∀ v h,bE bs.length r v h→k v h)→
    G5 ⟨0,A,T,C,un,L⟩ fn args (gR bs 0) bs.length k) (hf:P.funcs[f]? =some fn:=by kernel_rfl) (hn:fn.body.isNone=false:=by kernel_rfl) (hnm:(fn.name == "runtime.NumGoroutine")=false:=by kernel_rfl) (hN:ds.length≤fn.ntmps:=by decide +kernel):aJ P f (aC ds aA g):=
 cT (un:=un) (hf:=hf) (hn:=hn) (hnm:=hnm) (hN:=hN) hT hC hm fun w Wr args bs r hg ho hids A L k hA hL hk=>by
  unfold toW at hg
  split at hg
  ·rename_i r' hr'
   simp only[Option.some.injEq] at hg
   subst hg
   exact hrun w Wr args bs r' hr' ho hids A L k hA hL fun v h hgd=>hk v h (by
    obtain⟨τ,t1,t2,t2',t3,t4⟩:=hgd.ex
    exact⟨τ,t1,t2,t2',t3,t4,fun i t b _ hb=>by simp at hb⟩)
  ·simp at hg
end
theorem fQ (d:Dg) (i:Nat):d.dig i < 2 ^ 32:=Kb _ _
theorem oT (d:Dg) (i:Nat) (h:d.n < 2 ^ (32*(i+1))):d.dig i=0↔d.n < 2 ^ (32*i):=by
 have h1:d.n / 2 ^ (32*i) < 2 ^ 32:=by
  rw[Nat.div_lt_iff_lt_mul (Nat.two_pow_pos _), ← Nat.pow_add]
  rwa [show 32+32*i=32*(i+1) from by omega]
 unfold Dg.dig
 rw[Nat.mod_eq_of_lt h1,Nat.div_eq_zero_iff]
 have:=Nat.two_pow_pos (32*i)
 omega
def zn (n:Nat):Int:=n
theorem vH (n:Nat):(NatCast.natCast n:Int)=zn n:=rfl
theorem bM (n:Nat):Int.ofNat n=(n:Int):=rfl
theorem cX (n:Int):IntKind.u64.wrap n=n % 18446744073709551616:=by simp[IntKind.wrap,IntKind.bits,IntKind.signed]
theorem cE (w:Nat) (a:Int) (h0:0≤a) (h1:a < 2 ^ w):(BitVec.ofInt w a).toNat=a.toNat:=by
 rw[BitVec.toNat_ofInt]
 rw[Int.emod_eq_of_lt h0 (by exact_mod_cast h1)]
theorem Ma (a b:Int) (h0:0≤a) (h1:a < 18446744073709551616) (h2:0≤b) (h3:b < 18446744073709551616):aD .and .u64 a b=((a.toNat&&& b.toNat:Nat):Int):=by
 have e1:=cE 64 a h0 (by omega)
 have e2:=cE 64 b h2 (by omega)
 have h4:a.toNat&&& b.toNat≤a.toNat:=Nat.and_le_left
 show IntKind.u64.wrap ((BitVec.ofInt 64 a&&& BitVec.ofInt 64 b).toNat:Int)=_
 rw[BitVec.toNat_and,e1,e2,cX]
 omega
theorem Is (a b:Int) (h0:0≤a) (h1:a < 18446744073709551616) (h2:0≤b) (h3:b < 18446744073709551616):aD .or .u64 a b=((a.toNat||| b.toNat:Nat):Int):=by
 have e1:=cE 64 a h0 (by omega)
 have e2:=cE 64 b h2 (by omega)
 have h4:a.toNat||| b.toNat < 2 ^ 64:=Nat.or_lt_two_pow (by omega) (by omega)
 show IntKind.u64.wrap ((BitVec.ofInt 64 a||| BitVec.ofInt 64 b).toNat:Int)=_
 rw[BitVec.toNat_or,e1,e2,cX]
 omega
theorem EX (a:Int) (h0:0≤a) (h1:a < 18446744073709551616):aD .and .u64 a 4294967295=a % 4294967296:=by
 rw[Ma a _ h0 h1 (by omega) (by omega)]
 have:a.toNat&&& (4294967295:Int).toNat=a.toNat % 2 ^ 32:=Nat.and_two_pow_sub_one_eq_mod _ 32
 rw[this]
 omega
theorem gK (a:Int) (h0:0≤a):aD .shr .u64 a 32=a / 4294967296:=by
 show a.fdiv (2 ^ min (32:Int).toNat 64)=_
 rw[Int.fdiv_eq_ediv_of_nonneg _ (by decide)]
 rfl
theorem wQ (lo hi:Nat) (h1:lo < 2 ^ 32) (h2:hi < 2 ^ 32):((Dg.zero.set 0 lo).set 1 hi).n=2 ^ 32*hi+lo:=by
 have e1:(Dg.zero.set 0 lo).n=lo:=by rw[Dg.set_n _ _ _ (by omega) h1];simp[Dg.zero]
 rw[Dg.set_n _ _ _ (by omega) h2,e1]
 omega
theorem bC {P:Program} :COK P (aN []):=fun _ _ h=>by cases h
theorem aB {P:Program} {f:Nat} {s:bU} {l:List (Nat×bU)} (h:aJ P f s) (hl:COK P (aN l)):COK P (aN ((f,s) :: l)):=fun g t e=>by
 simp only[aN] at e
 split at e
 ·rename_i hg
  simp only[beq_iff_eq] at hg
  simp only[Option.some.injEq] at e
  subst hg e
  exact h
 ·exact hl g t e
theorem fA {K:Cx} {n:Nat} {a b:Code} {s:St} {k:Exit→St→Prop}
  (h: ∀ kk:Exit→St→Prop,(∀ s',run K n b s' k→kk .normal s')→(∀ e s',e≠ .normal→k e s'→kk e s')→run K n a s kk):run K (n+1) (.seq a b) s k:=
 h (fun e s'=>match e with
  | .normal=>run K n b s' k
  | e=>k e s') (fun _ h=>h) (fun e s' he hk=>by cases e <;> first | exact absurd rfl he | exact hk)
theorem Ef {K:Cx} {fn:Func} {c:Code} (hb:fn.body=some c) {args:List CV} {heap:bT} {nid:Nat} {k:XV→bT→Prop}
  (h:run { K with N:=fn.ntmps } 1000 c ⟨aiH 0 args,heap,nid⟩ fun e s=>match e with
   | .normal=>match La { K with N:=fn.ntmps } s fn.results.toList with
    | some v=>k v s.heap
    | none=>False
   | .ret=>match La { K with N:=fn.ntmps } s fn.results.toList with
    | some v=>k v s.heap
    | none=>False
   | _=>False):G5 K fn args heap nid k:=by
 unfold G5
 rw[hb]
 exact h
def Dr (K:Cx) (full:List Oper) (heap:bT) (tl:List Oper) (len:Nat) (k:St→Prop) (l:List Oper) (q:FS):Prop:=
 match iD K full heap l q with
 | some q=>if lU q.F tl len then Mw q.ob (rL K full tl ⟨q.env,fE heap q.F 0 (fun _=>true),q.id⟩ k) else False
 | none=>False
theorem atC {K:Cx} {full:List Oper} {heap:bT} : ∀ (l m:List Oper) (q:FS),iD K full heap (l++m) q=match iD K full heap l q with
  | some q'=>iD K full heap m q'
  | none=>none
 | [],m,q=>rfl
 | o :: l,m,q=>by
  simp only[List.cons_append,iD]
  split
  ·rename_i q' h;exact atC l m q'
  ·rfl
theorem atF {K:Cx} {full:List Oper} {heap:bT} {tl:List Oper} {len:Nat} {k:St→Prop} {l:List Oper} {q:FS} (m:Nat)
  (h: ∀ P:FS→Prop,(∀ q',Dr K full heap tl len k (l.drop m) q'→P q')→match iD K full heap (l.take m) q with
   | some q'=>P q'
   | none=>False):Dr K full heap tl len k l q:=by
 have h1:=h (Dr K full heap tl len k (l.drop m)) (fun _ h=>h)
 have e:=atC (K:=K) (full:=full) (heap:=heap) (l.take m) (l.drop m) q
 rw[List.take_append_drop] at e
 unfold Dr
 rw[e]
 split at h1
 ·exact h1
 ·exact h1.elim
theorem aG {a:Bool} {l:List Bool} (h: ∀ b,b∈a :: l→b=true):a=true∧ ∀ b,b∈l→b=true:=
 ⟨h a (List.mem_cons_self ..),fun b hb=>h b (List.mem_cons_of_mem _ hb)⟩
def ints:List IntKind→List CV→Option (List Int)
 | [],[]=>some []
 | k :: ks, .s (.int k' n) :: r=>if k=k' then match ints ks r with
  | some l=>some (n :: l)
  | none=>none else none
 | _,_=>none
open Go.RowKit Go.WideShapes Go.ChangeShapes in
theorem GZ {H:Type} {enc:TypeId×Value→H} {P:Program} {f:Func} {s:ChangeSpec} {apart fresh handsOn again:Bool} {W W':World} {args:Array Value} {v:Value} {ds gs:List (DataW H)}
  {before pa pv:List MemPlace} (hW:DataW.Whole enc P f.params.toList s.vars apart W args.toList ds gs before)
  (hres: ∀ (b:Nat) (sp:Nat→Bool) (hd:Bool),DataW.TrodAll enc P W' b sp hd f.resultTypes.toList (v.resultList f.resultTypes.size) (s.fn H (ds++gs)).results [])
  (hargs: ∀ sp:Nat→Bool,(∀ p∈before,sp p.block=true)→DataW.TrodAll enc P W' 0 sp true f.params.toList args.toList (s.fn H (ds++gs)).args pa)
  (hvars: ∀ sp:Nat→Bool,(∀ p∈before,sp p.block=true)→DataW.TrodVars enc P W' sp s.vars (s.fn H (ds++gs)).vars pv)
  (hps:before=pa++pv) (hb:Below W.heap.size W W')
  (hok: ∀ (j:Nat) (t:TypeId) (r:Value),f.resultTypes[j]? =some t→(v.resultList f.resultTypes.size)[j]? =some r→Value.okWide P W' .any 0 t r) :
  s.post enc P f apart fresh handsOn again W args v W':=by
 have hin: ∀ p,p∈before→p.block < W.heap.size:=fun p hp=>hW.lt p hp
 have hsp: ∀ p,p∈before→(fun b=>decide (b < W.heap.size)) p.block=true:=fun p hp=>decide_eq_true (hin p hp)
 refine⟨ds,gs,before,[],pa,pv,hW,hres _ _ _,hargs _ hsp,hvars _ hsp,World.keptBut_mono (fun p hp=>⟨hp,?_⟩) (hb.frame (· ∈before)),fun _=>?_⟩
 ·rw[hps,List.mem_append] at hp
  exact .inr hp
 ·obtain⟨_,_,_,_,_,hz,hn⟩:=hW
  refine⟨hok,_,_,([]++pa)++pv,⟨[]++pa,pv,trodAll_append (hargs _ (fun _ _=>rfl)) (hres _ _ _),hvars _ (fun _ _=>rfl),rfl,fun b off hp=>?_,fun ha=>?_⟩,fun p hp _=>?_⟩
  ·have hm:MemPlace.cell b off∈before:=by rw[hps];simpa using hp
   rw[hb.frozen (hin _ hm)]
   exact hz b off hm
  ·have:=hn ha
   rw[hps] at this
   simpa using this
  ·rw[hps];simpa using hp
theorem ZM {K:Cx} {n id:Nat} {c:Code} {s:St} {k:Exit→St→Prop}
  (h: ∀ kk:Exit→St→Prop,(∀ s',k .normal s'→kk .normal s')→(∀ s',k .normal s'→kk (.exit id) s')→(∀ i s',i≠id→k (.exit i) s'→kk (.exit i) s')→(∀ s',k .ret s'→kk .ret s')→run K n c s kk):run K (n+1) (.block id c) s k:=
 h (fun e s'=>match e with
  | .exit id'=>if id' == id then k .normal s' else k (.exit id') s'
  | e=>k e s') (fun _ h=>h) (fun s' h=>by simpa using h) (fun i s' hi h=>by simp only[beq_iff_eq,if_neg hi];exact h) (fun _ h=>h)
section
variable {ρ:Rho} {f:Nat→Nat}
theorem B2 {k:IntKind} {a c:Int} (h:a=c):(XV.c (.s (.int k a))).den ρ=((XV.c (.s (.int k c))).ren f).den ρ:=by subst h;rfl
theorem Ak {k:IntKind} {a c:Int} (h:a=c):(XV.c (.s (.lit k a))).den ρ=((XV.c (.s (.int k c))).ren f).den ρ:=by subst h;rfl
theorem yQ {a c:Bool} (h:a=c):(XV.c (.s (.bool a))).den ρ=((XV.c (.s (.bool c))).ren f).den ρ:=by subst h;rfl
theorem BH {a c:Bool} (h:a=c):(XV.c (.s (.tt a))).den ρ=((XV.c (.s (.bool c))).ren f).den ρ:=by subst h;rfl
theorem H5 {a c:Wd} (h:a=c):(XV.c (.g [.W a])).den ρ=((XV.c (.g [.W c])).ren f).den ρ:=by subst h;rfl
theorem yR {a c:Rt} (h:a=c):(XV.c (.g [.R a])).den ρ=((XV.c (.g [.R c])).ren f).den ρ:=by subst h;rfl
theorem Ps {a c:Pt} (h:a=c):(XV.c (.g [.P a])).den ρ=((XV.c (.g [.P c])).ren f).den ρ:=by subst h;rfl
theorem LQ {k l:IntKind} {a b c d:Int} (h1:a=c) (h2:b=d):(XV.t [.s (.int k a), .s (.int l b)]).den ρ=((XV.t [.s (.int k c), .s (.int l d)]).ren f).den ρ:=by subst h1 h2;rfl
theorem Tc {a c:Wd} {b d:Bool} (h1:a=c) (h2:b=d):(XV.t [.g [.W a], .s (.bool b)]).den ρ=((XV.t [.g [.W c], .s (.bool d)]).ren f).den ρ:=by subst h1 h2;rfl
theorem BS {a c:Wd} {b d:Bool} (h1:a=c) (h2:b=d):(XV.t [.g [.W a], .s (.tt b)]).den ρ=((XV.t [.g [.W c], .s (.bool d)]).ren f).den ρ:=by subst h1 h2;rfl
theorem Az {a b c d:Wd} {x y:Bool} (h1:a=c) (h2:b=d) (h3:x=y):(XV.t [.g [.W a], .g [.W b], .s (.tt x)]).den ρ=((XV.t [.g [.W c], .g [.W d], .s (.bool y)]).ren f).den ρ:=by subst h1 h2 h3;rfl
theorem Rf {a c k:Nat} {x y:Bool} (h:x=y) (hf:f c=a):(XV.t [.s (.hp a k), .s (.bool x)]).den ρ=((XV.t [.s (.hp c k), .s (.bool y)]).ren f).den ρ:=by subst h hf;rfl
theorem QH {a c k:Nat} (hf:f c=a):(XV.c (.s (.hp a k))).den ρ=((XV.c (.s (.hp c k))).ren f).den ρ:=by subst hf;rfl
theorem Rg {a c k:Nat} {kk:IntKind} {x y:Int} (h:x=y) (hf:f c=a):(XV.t [.s (.hp a k), .s (.int kk x)]).den ρ=((XV.t [.s (.hp c k), .s (.int kk y)]).ren f).den ρ:=by subst h hf;rfl
theorem Rh {a b c d k l:Nat} (hf:f c=a) (hg:f d=b):(XV.t [.s (.hp a k), .s (.hp b l)]).den ρ=((XV.t [.s (.hp c k), .s (.hp d l)]).ren f).den ρ:=by subst hf hg;rfl
theorem xA {a c:Rt} {b d:Bool} (h1:a=c) (h2:b=d):(XV.t [.g [.R a], .s (.bool b)]).den ρ=((XV.t [.g [.R c], .s (.bool d)]).ren f).den ρ:=by subst h1 h2;rfl
theorem kP {a c:Rt} {b d:Bool} (h1:a=c) (h2:b=d):(XV.t [.g [.R a], .s (.tt b)]).den ρ=((XV.t [.g [.R c], .s (.bool d)]).ren f).den ρ:=by subst h1 h2;rfl
theorem BR {k:IntKind} {a c:Int} {b d:Bool} (h1:a=c) (h2:b=d):(XV.t [.s (.int k a), .s (.bool b)]).den ρ=((XV.t [.s (.int k c), .s (.bool d)]).ren f).den ρ:=by subst h1 h2;rfl
theorem EE {k:IntKind} {a c:Int} {b d:Bool} (h1:a=c) (h2:b=d):(XV.t [.s (.int k a), .s (.tt b)]).den ρ=((XV.t [.s (.int k c), .s (.bool d)]).ren f).den ρ:=by subst h1 h2;rfl
theorem EF {k:IntKind} {a c:Int} {b d:Bool} (h1:a=c) (h2:b=d):(XV.t [.s (.lit k a), .s (.tt b)]).den ρ=((XV.t [.s (.int k c), .s (.bool d)]).ren f).den ρ:=by subst h1 h2;rfl
end
theorem leD {o:Bool} {a b:Dg} (h:a=b):i5 (.fix o [.D a]) (.fix o [.D b]):=⟨rfl,rfl,fun _=>by rw[h]⟩
theorem leV {o:Bool} {k:RK} {a b:List k.ty} (h:a=b):i5 (.vec o k a) (.vec o k b):=by subst h;exact⟨rfl,rfl,rfl,rfl,fun h=>h⟩
theorem aF {b:Blk} (h:b.live=true):i5 b b:=by
 cases b with
 | fix o l=>exact⟨rfl,rfl,fun _=>rfl⟩
 | vec o k l=>exact⟨rfl,rfl,rfl,rfl,fun h=>h⟩
 | gone=>cases h
theorem leI {k:IntKind} {a b:Int} (h:a=b): ∀ ρ,(XV.c (.s (.int k a))).den ρ=(XV.c (.s (.int k b))).den ρ:=fun _=>by rw[h]
theorem bE.one {q t:Nat} {b b':Blk} {r:LR} {v:XV} {h:bT} (hn:r.new=[b]) (ht:q≤t) (hv: ∀ ρ,v.den ρ=(r.val.ren (lf q [t])).den ρ) (hl:aN h t=some b') (hb:i5 b' b):bE q r v h:=
 ⟨[t],by simp[hn],by simp,by simpa using ht,hv,fun i u c hu hc=>by
  cases i with
  | zero=>rw[hn] at hc;simp at hu hc;subst hu hc;exact⟨b',hl,hb⟩
  | succ i=>simp at hu⟩
theorem iW.one {bs:List Blk} {t:Nat} {b b':Blk} {r:LW} {v:XV} {h:bT} (hn:r.new=[]) (hv: ∀ ρ,v.den ρ=(r.val.ren (lf bs.length [])).den ρ) (ho:eH bs 0=[t]) (hr:r.wr=[b]) (hl:aN h t=some b') (hb:i5 b' b):iW bs r v h:=
 iW.pure hn hv fun i u c hu hc=>by
  cases i with
  | zero=>rw[ho] at hu;rw[hr] at hc;simp at hu hc;subst hu hc;exact⟨b',hl,hb⟩
  | succ i=>rw[ho] at hu;simp at hu
theorem bE.two {q t u:Nat} {b b' c c':Blk} {r:LR} {v:XV} {h:bT} (hn:r.new=[b,c]) (ht:q≤t) (hu:q≤u) (htu:t≠u) (hv: ∀ ρ,v.den ρ=(r.val.ren (lf q [t,u])).den ρ) (hl:aN h t=some b') (hb:i5 b' b) (hl2:aN h u=some c') (hc:i5 c' c):bE q r v h:=
 ⟨[t,u],by simp[hn],by simpa using htu,by simp;exact⟨ht,hu⟩,hv,fun i x y hx hy=>by
  cases i with
  | zero=>rw[hn] at hy;simp at hx hy;subst hx hy;exact⟨b',hl,hb⟩
  | succ i=>
   cases i with
   | zero=>rw[hn] at hy;simp at hx hy;subst hx hy;exact⟨c',hl2,hc⟩
   | succ i=>simp at hx⟩
end Go.Eng
