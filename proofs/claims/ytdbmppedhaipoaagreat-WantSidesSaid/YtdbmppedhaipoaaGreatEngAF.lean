
import Derived.Test.YtdbmppedhaipoaaGreatEngAX
import Derived.Test.YtdbmppedhaipoaaGreatEngMW
set_option linter.all false
set_option exponentiation.threshold 3000
namespace Go.Eng
theorem bW.pure {bs:List Blk} {r:LW} {v:XV} {h:bT} (hn:r.new=[]) (hw:r.wr=[]) (hv: ∀ ρ,v.den ρ=r.val.den (nZ bs.length [] ρ)):bW bs r v h:=
 ⟨[],by simp[hn],fun i j x y t hx=>by simp at hx,hv,fun i x b hx=>by simp at hx,fun p t b _ hb=>by rw[hw] at hb;simp at hb⟩
theorem jZ.vec {F:Rho→Rho} {o:Bool} {k:RK} {a b:List k.ty} (h:a=b):jZ F (.vec o k a) (.vec o k b):=by subst h;exact⟨rfl,rfl,rfl,rfl,fun h=>h⟩
theorem bW.two {bs:List Blk} {r:LW} {v:XV} {h:bT} {b c b' c':Blk} {t u:Nat} (hn:r.new=[b,c]) (hw:r.wr=[]) (ht:bs.length≤t) (hu:bs.length≤u) (htu:t≠u) (hv: ∀ ρ,v.den ρ=r.val.den (nZ bs.length [.hs t, .hs u] ρ))
  (hl:aN h t=some b') (hb:jZ (nZ bs.length [.hs t, .hs u]) b' b) (hl2:aN h u=some c') (hc:jZ (nZ bs.length [.hs t, .hs u]) c' c):bW bs r v h:=
 ⟨[.hs t, .hs u],by simp[hn],fun i j x y z hx hy hij hz=>by
   match i,j with
   | 0,0=>exact absurd rfl hij
   | 1,1=>exact absurd rfl hij
   | 0,1=>simp at hx hy;subst hx hy;simp[Sc.base] at hz ⊢;omega
   | 1,0=>simp at hx hy;subst hx hy;simp[Sc.base] at hz ⊢;omega
   | i+2,_=>simp at hx
   | 0,j+2=>simp at hy
   | 1,j+2=>simp at hy,hv,fun i x b1 hx hb1=>by
   rw[hn] at hb1
   match i with
   | 0=>simp at hx hb1;subst hx hb1;exact .inl ⟨t,b', .inl ht, .inl rfl,hl,hb⟩
   | 1=>simp at hx hb1;subst hx hb1;exact .inl ⟨u,c', .inl hu, .inl rfl,hl2,hc⟩
   | i+2=>simp at hx,fun p t b _ hb=>by rw[hw] at hb;simp at hb⟩
theorem bW.oneW {bs:List Blk} {r:LW} {v:XV} {h:bT} {b b':Blk} {t:Nat} (hn:r.new=[b]) (ht:Xx bs r.wr t) (hv: ∀ ρ,v.den ρ=r.val.den (nZ bs.length [.hs t] ρ))
  (hl:aN h t=some b') (hb:jZ (nZ bs.length [.hs t]) b' b) (hw: ∀ (p t':Nat) (b:Blk),(eH bs 0)[p]? =some t'→r.wr[p]? =some b→b= .gone∨ ∃ b',aN h t'=some b'∧jZ (nZ bs.length [.hs t]) b' b):bW bs r v h:=
 ⟨[.hs t],by simp[hn],fun i j x y z hx hy hij hz=>by
   match i,j with
   | 0,0=>exact absurd rfl hij
   | i+1,_=>simp at hx
   | 0,j+1=>simp at hy,hv,fun i x b1 hx hb1=>by
   rw[hn] at hb1
   match i with
   | 0=>simp at hx hb1;subst hx hb1;exact .inl ⟨t,b',ht, .inl rfl,hl,hb⟩
   | i+1=>simp at hx,hw⟩
theorem bW.one {bs:List Blk} {r:LW} {v:XV} {h:bT} {b b':Blk} {t:Nat} (hn:r.new=[b]) (hw:r.wr=[]) (ht:bs.length≤t) (hv: ∀ ρ,v.den ρ=r.val.den (nZ bs.length [.hs t] ρ))
  (hl:aN h t=some b') (hb:jZ (nZ bs.length [.hs t]) b' b):bW bs r v h:=
 .oneW hn (.inl ht) hv hl hb fun p t b _ hb=>by rw[hw] at hb;simp at hb
theorem bW.cell {bs:List Blk} {r:LW} {v:XV} {h:bT} {b b':Blk} {t i j:Nat} (hi:eH bs 0=[i,j]) (hn:r.new=[b]) (hw:r.wr=[.gone, .fix true [.s (.hs bs.length)]]) (ht:bs.length≤t∨t=i) (hv: ∀ ρ,v.den ρ=r.val.den (nZ bs.length [.hs t] ρ))
  (hl:aN h t=some b') (hb:jZ (nZ bs.length [.hs t]) b' b) (hc:aN h j=some (.fix true [.s (.hs t)])):bW bs r v h:=
 .oneW hn (ht.imp id fun e=>⟨0,by rw[hi,e];rfl,by rw[hw];rfl⟩) hv hl hb fun p t' b hp hb=>by
  rw[hi] at hp
  rw[hw] at hb
  match p with
  | 0=>simp at hb;exact .inl hb.symm
  | 1=>
   simp at hp hb
   subst hp hb
   exact .inr ⟨_,hc,rfl,rfl,fun ρ=>by
    show aI ρ [.s (.hs t)]=aI (nZ bs.length [.hs t] ρ) [.s (.hs bs.length)]
    have:nZ bs.length [.hs t] ρ bs.length=ρ t:=(mP (q:=bs.length) (τ:=[.hs t]) (i:=0) rfl)
    show _=[nZ bs.length [.hs t] ρ bs.length]++[]
    rw[this];rfl⟩
  | p+2=>simp at hp
theorem bW.wrote {bs:List Blk} {r:LW} {v:XV} {h:bT} {b b':Blk} {i:Nat} (hi:eH bs 0=[i]) (hn:r.new=[]) (hw:r.wr=[b]) (hv: ∀ ρ,v.den ρ=r.val.den (nZ bs.length [] ρ)) (hl:aN h i=some b') (hb:jZ (nZ bs.length []) b' b):bW bs r v h:=
 ⟨[],by simp[hn],fun i j x y t hx=>by simp at hx,hv,fun i x b hx=>by simp at hx,fun p t c hp hc=>by
  rw[hi] at hp
  rw[hw] at hc
  match p with
  | 0=>simp at hp hc;subst hp hc;exact .inr ⟨_,hl,hb⟩
  | p+1=>simp at hp⟩
theorem bW.nils {bs:List Blk} {r:LW} {v:XV} {h:bT} {o:Bool} {k:RK} (hn:r.new=[.vec o k []]) (hw:r.wr=[]) (hv: ∀ ρ,v.den ρ=r.val.den (nZ bs.length [.nils] ρ)):bW bs r v h:=
 ⟨[.nils],by simp[hn],fun i j x y z hx hy hij hz=>by
   match i,j with
   | 0,0=>exact absurd rfl hij
   | i+1,_=>simp at hx
   | 0,j+1=>simp at hy,hv,fun i x b1 hx hb1=>by
   rw[hn] at hb1
   match i with
   | 0=>simp at hx hb1;subst hx hb1;exact .inr ⟨rfl,o,k,rfl⟩
   | i+1=>simp at hx,fun p t b _ hb=>by rw[hw] at hb;simp at hb⟩
section
variable {ρ ρ':Rho}
theorem dB {a c:Bool} (h:a=c):(XV.c (.s (.bool a))).den ρ=(XV.c (.s (.bool c))).den ρ':=by subst h;rfl
theorem dT {a c:Bool} (h:a=c):(XV.c (.s (.tt a))).den ρ=(XV.c (.s (.bool c))).den ρ':=by subst h;rfl
theorem dI {k:IntKind} {a c:Int} (h:a=c):(XV.c (.s (.int k a))).den ρ=(XV.c (.s (.int k c))).den ρ':=by subst h;rfl
theorem dL {k:IntKind} {a c:Int} (h:a=c):(XV.c (.s (.lit k a))).den ρ=(XV.c (.s (.int k c))).den ρ':=by subst h;rfl
theorem dP {a c:Pt} (h:a=c):(XV.c (.g [.P a])).den ρ=(XV.c (.g [.P c])).den ρ':=by subst h;rfl
theorem dII {k l:IntKind} {a b c d:Int} (h1:a=c) (h2:b=d):(XV.c (.g [.s (.int k a), .s (.int l b)])).den ρ=(XV.c (.g [.s (.int k c), .s (.int l d)])).den ρ':=by subst h1 h2;rfl
theorem dLL {k l:IntKind} {a b c d:Int} (h1:a=c) (h2:b=d):(XV.c (.g [.s (.lit k a), .s (.lit l b)])).den ρ=(XV.c (.g [.s (.int k c), .s (.int l d)])).den ρ':=by subst h1 h2;rfl
end
def GT (s t:bU):bU:=fun m xs h=>match s m xs h with
 | some r=>some r
 | none=>t m xs h
theorem Ch {P:Program} {f:Nat} {s t:bU} (h1:aJ P f s) (h2:aJ P f t):aJ P f (GT s t) where
 enters:=h1.enters
 calls n m args h r hlt hr hob w0 Wr ρ w hs hargs:=by
  unfold GT at hr
  split at hr
  ·rename_i r' hr'
   cases hr
   exact h1.calls n m args h _ hlt hr' hob w0 Wr ρ w hs hargs
  ·exact h2.calls n m args h _ hlt hr hob w0 Wr ρ w hs hargs
def cY (n:Int) (p:Int→Bool):Bool:=(List.range n.toNat).any fun i:Nat=>p (i:Int)
def Dk (n:Int) (p:Int→Bool):Int:=match (List.range n.toNat).find? fun i:Nat=>p (i:Int) with
 | some i=>i
 | none=> -1
structure AnI (n:Int) (p:Int→Bool) (k:Int):Prop where
 k0:0≤k
 k1:k≤n
 no: ∀ j,0≤j→j < k→p j=false
structure AnS (A:Alg) (n:Int) (p:Int→Bool) (k:Int):Prop where
 o1:A.cmp .leq 0 k=true
 ad:A.bin .add .i64 k 1=k+1
 ms:(n - (k+1)).toNat < (n - k).toNat
 nx:p k=false→AnI n p (k+1)
 ht:p k=true→cY n p=true
 ix:p k=true→Dk n p=k
theorem cH {n:Int} {p:Int→Bool} (h:0≤n):AnI n p 0:=⟨Int.le_refl _,h,fun j h1 h2=>by omega⟩
theorem mH {n:Int} {p:Int→Bool} :cY n p=true↔ ∃ j,0≤j∧j < n∧p j=true:=by
 unfold cY
 rw[List.any_eq_true]
 constructor
 ·rintro⟨i,hi,h⟩
  have:=List.mem_range.1 hi
  exact⟨i,by omega,by omega,h⟩
 ·rintro⟨j,h0,h1,h⟩
  exact⟨j.toNat,List.mem_range.2 (by omega),by rw[show((j.toNat:Nat):Int)=j from by omega];exact h⟩
theorem dY {n:Int} {p:Int→Bool} :cY n p=false↔ ∀ j,0≤j→j < n→p j=false:=by
 rw[← Bool.not_eq_true,mH]
 constructor
 ·intro h j h0 h1
  cases hp:p j
  ·rfl
  ·exact absurd ⟨j,h0,h1,hp⟩ h
 ·rintro h ⟨j,h0,h1,h2⟩
  rw[h j h0 h1] at h2;cases h2
theorem c9 {n:Int} {p:Int→Bool} {k:Int} (hI:AnI n p k) (hn:n < 4611686018427387904) (A:Alg) (hA:A=aA) (hb:A.cmp .lss k n=true):AnS A n p k:=by
 subst hA
 have hb:k < n:=of_decide_eq_true hb
 obtain⟨k0,k1,no⟩:=hI
 refine⟨decide_eq_true k0,?_,by omega,fun h=>⟨by omega,by omega,fun j h0 h1=>?_⟩,fun h=>mH.2 ⟨k,k0,hb,h⟩,fun h=>?_⟩
 ·show IntKind.i64.wrap (k+1)=k+1
  rw[IntKind.wrap_i64];omega
 ·by_cases e:j=k
  ·rw[e];exact h
  ·exact no j h0 (by omega)
 ·unfold Dk
  have:(List.range n.toNat).find? (fun i:Nat=>p (i:Int))=some k.toNat:=by
   rw[List.find?_range_eq_some]
   refine⟨by rw[show((k.toNat:Nat):Int)=k from by omega];exact h,List.mem_range.2 (by omega),fun j hj=>?_⟩
   have:=no (j:Int) (by omega) (by omega)
   simp[this]
  rw[this]
  show((k.toNat:Nat):Int)=k
  omega
structure AnE (n:Int) (p:Int→Bool):Prop where
 no:cY n p=false
 ix:Dk n p= -1
theorem eK {n:Int} {p:Int→Bool} {k:Int} (hI:AnI n p k) (A:Alg) (hA:A=aA) (hb:A.cmp .lss k n=false):AnE n p:=by
 subst hA
 have hb: ¬ k < n:=of_decide_eq_false hb
 obtain⟨k0,k1,no⟩:=hI
 have h:cY n p=false:=dY.2 fun j h0 h1=>no j h0 (by omega)
 refine⟨h,?_⟩
 unfold Dk
 have:(List.range n.toNat).find? (fun i:Nat=>p (i:Int))=none:=by
  rw[List.find?_eq_none]
  intro i hi
  have:=List.mem_range.1 hi
  rw[no i (by omega) (by omega)];simp
 rw[this]
theorem uM (n:Int) (p:Int→Bool):decide (Dk n p ≥ 0)=cY n p:=by
 cases h:cY n p
 ·have hI:AnI n p n∨n < 0:=by
   by_cases hn:0≤n
   ·exact .inl ⟨hn,Int.le_refl _,dY.1 h⟩
   ·exact .inr (by omega)
  unfold Dk
  have:(List.range n.toNat).find? (fun i:Nat=>p (i:Int))=none:=by
   rw[List.find?_eq_none]
   intro i hi
   have:=List.mem_range.1 hi
   rw[dY.1 h i (by omega) (by omega)];simp
  rw[this];rfl
 ·obtain⟨j,h0,h1,h2⟩:=mH.1 h
  unfold Dk
  cases hf:(List.range n.toNat).find? fun i:Nat=>p (i:Int) with
  | none=>
   rw[List.find?_eq_none] at hf
   have:=hf j.toNat (List.mem_range.2 (by omega))
   rw[show((j.toNat:Nat):Int)=j from by omega,h2] at this
   exact absurd rfl this
  | some i=>exact decide_eq_true (by show((i:Nat):Int) ≥ 0;omega)
end Go.Eng
