
import Derived.Test.YtbfknjpggfkgjaaGreatEngAX
import Derived.Test.YtbfknjpggfkgjaaGreatEngMW
set_option linter.all false
set_option exponentiation.threshold 3000
namespace Go.Eng
theorem bW.pure {bs:List Blk} {r:LW} {v:XV} {h:bT} (hn:r.new=[]) (hw:r.wr=[]) (hv: ∀ ρ,v.den ρ=r.val.den (nZ bs.length [] ρ)):bW bs r v h:=
 ⟨[],by simp[hn],fun i j x y t hx=>by simp at hx,hv,fun i x b hx=>by simp at hx,fun p t b _ hb=>by rw[hw] at hb;simp at hb⟩
theorem jZ.vec {F:Rho→Rho} {o:Bool} {k:RK} {a b:List k.ty} (h:a=b):jZ F (.vec o k a) (.vec o k b):=by subst h;exact⟨rfl,rfl,rfl,rfl,fun h=>h⟩
theorem bW.two {bs:List Blk} {r:LW} {v:XV} {h:bT} {b c b' c':Blk} {t u:Nat} (hn:r.new=[b,c]) (hw:r.wr=[]) (ht:bs.length≤t) (hu:bs.length≤u) (htu:t≠u) (hv: ∀ ρ,v.den ρ=r.val.den (nZ bs.length [.hs t, .hs u] ρ))
  (hl:aN h t=some b') (hb:jZ (nZ bs.length [.hs t, .hs u]) b' b) (hl2:aN h u=some c') (hc:jZ (nZ bs.length [.hs t, .hs u]) c' c):bW bs r v h:=
 ⟨[.hs t, .hs u],by simp[hn],fun i j x y z hx hy hij hz=>by
   match i,j with
   | 0,0=>exact absurd rfl hij
   | 1,1=>exact absurd rfl hij
   | 0,1=>simp at hx hy;subst hx hy;simp[Sc.base] at hz ⊢;omega
   | 1,0=>simp at hx hy;subst hx hy;simp[Sc.base] at hz ⊢;omega
   | i+2,_=>simp at hx
   | 0,j+2=>simp at hy
   | 1,j+2=>simp at hy,hv,fun i x b1 hx hb1=>by
   rw[hn] at hb1
   match i with
   | 0=>simp at hx hb1;subst hx hb1;exact .inl ⟨t,b', .inl ht, .inl rfl,hl,hb⟩
   | 1=>simp at hx hb1;subst hx hb1;exact .inl ⟨u,c', .inl hu, .inl rfl,hl2,hc⟩
   | i+2=>simp at hx,fun p t b _ hb=>by rw[hw] at hb;simp at hb⟩
theorem bW.oneW {bs:List Blk} {r:LW} {v:XV} {h:bT} {b b':Blk} {t:Nat} (hn:r.new=[b]) (ht:Xx bs r.wr t) (hv: ∀ ρ,v.den ρ=r.val.den (nZ bs.length [.hs t] ρ))
  (hl:aN h t=some b') (hb:jZ (nZ bs.length [.hs t]) b' b) (hw: ∀ (p t':Nat) (b:Blk),(eH bs 0)[p]? =some t'→r.wr[p]? =some b→b= .gone∨ ∃ b',aN h t'=some b'∧jZ (nZ bs.length [.hs t]) b' b):bW bs r v h:=
 ⟨[.hs t],by simp[hn],fun i j x y z hx hy hij hz=>by
   match i,j with
   | 0,0=>exact absurd rfl hij
   | i+1,_=>simp at hx
   | 0,j+1=>simp at hy,hv,fun i x b1 hx hb1=>by
   rw[hn] at hb1
   match i with
   | 0=>simp at hx hb1;subst hx hb1;exact .inl ⟨t,b',ht, .inl rfl,hl,hb⟩
   | i+1=>simp at hx,hw⟩
theorem bW.one {bs:List Blk} {r:LW} {v:XV} {h:bT} {b b':Blk} {t:Nat} (hn:r.new=[b]) (hw:r.wr=[]) (ht:bs.length≤t) (hv: ∀ ρ,v.den ρ=r.val.den (nZ bs.length [.hs t] ρ))
  (hl:aN h t=some b') (hb:jZ (nZ bs.length [.hs t]) b' b):bW bs r v h:=
 .oneW hn (.inl ht) hv hl hb fun p t b _ hb=>by rw[hw] at hb;simp at hb
theorem bW.cell {bs:List Blk} {r:LW} {v:XV} {h:bT} {b b':Blk} {t i j:Nat} (hi:eH bs 0=[i,j]) (hn:r.new=[b]) (hw:r.wr=[.gone, .fix true [.s (.hs bs.length)]]) (ht:bs.length≤t∨t=i) (hv: ∀ ρ,v.den ρ=r.val.den (nZ bs.length [.hs t] ρ))
  (hl:aN h t=some b') (hb:jZ (nZ bs.length [.hs t]) b' b) (hc:aN h j=some (.fix true [.s (.hs t)])):bW bs r v h:=
 .oneW hn (ht.imp id fun e=>⟨0,by rw[hi,e];rfl,by rw[hw];rfl⟩) hv hl hb fun p t' b hp hb=>by
  rw[hi] at hp
  rw[hw] at hb
  match p with
  | 0=>simp at hb;exact .inl hb.symm
  | 1=>
   simp at hp hb
   subst hp hb
   exact .inr ⟨_,hc,rfl,rfl,fun ρ=>by
    show aI ρ [.s (.hs t)]=aI (nZ bs.length [.hs t] ρ) [.s (.hs bs.length)]
    have:nZ bs.length [.hs t] ρ bs.length=ρ t:=(mP (q:=bs.length) (τ:=[.hs t]) (i:=0) rfl)
    show _=[nZ bs.length [.hs t] ρ bs.length]++[]
    rw[this];rfl⟩
  | p+2=>simp at hp
theorem bW.wrote {bs:List Blk} {r:LW} {v:XV} {h:bT} {b b':Blk} {i:Nat} (hi:eH bs 0=[i]) (hn:r.new=[]) (hw:r.wr=[b]) (hv: ∀ ρ,v.den ρ=r.val.den (nZ bs.length [] ρ)) (hl:aN h i=some b') (hb:jZ (nZ bs.length []) b' b):bW bs r v h:=
 ⟨[],by simp[hn],fun i j x y t hx=>by simp at hx,hv,fun i x b hx=>by simp at hx,fun p t c hp hc=>by
  rw[hi] at hp
  rw[hw] at hc
  match p with
  | 0=>simp at hp hc;subst hp hc;exact .inr ⟨_,hl,hb⟩
  | p+1=>simp at hp⟩
theorem bW.nils {bs:List Blk} {r:LW} {v:XV} {h:bT} {o:Bool} {k:RK} (hn:r.new=[.vec o k []]) (hw:r.wr=[]) (hv: ∀ ρ,v.den ρ=r.val.den (nZ bs.length [.nils] ρ)):bW bs r v h:=
 ⟨[.nils],by simp[hn],fun i j x y z hx hy hij hz=>by
   match i,j with
   | 0,0=>exact absurd rfl hij
   | i+1,_=>simp at hx
   | 0,j+1=>simp at hy,hv,fun i x b1 hx hb1=>by
   rw[hn] at hb1
   match i with
   | 0=>simp at hx hb1;subst hx hb1;exact .inr (.inl ⟨rfl,o,k,rfl⟩)
   | i+1=>simp at hx,fun p t b _ hb=>by rw[hw] at hb;simp at hb⟩
theorem bW.src {bs:List Blk} {r:LW} {v:XV} {h:bT} {b:Blk} {x:Sc} (hn:r.new=[b]) (hs:PB (Xx bs r.wr) bs.length [x] h x b) (hv: ∀ ρ,v.den ρ=r.val.den (nZ bs.length [x] ρ)) (hw: ∀ c,c∈r.wr→c=Blk.gone):bW bs r v h:=
 ⟨[x],by simp[hn],fun i j y z t hy hz hij=>by
   match i,j with
   | 0,0=>exact absurd rfl hij
   | i+1,_=>simp at hy
   | 0,j+1=>simp at hz,hv,fun i y b1 hy hb1=>by
   rw[hn] at hb1
   match i with
   | 0=>simp at hy hb1;subst hy hb1;exact hs
   | i+1=>simp at hy,fun p t c _ hc=> .inl (hw c (List.mem_of_getElem? hc))⟩
theorem bW.win {bs:List Blk} {r:LW} {v:XV} {h:bT} {t z:Nat} {hi:Int} {k:RK} {l m:List k.ty} (hz:z=k.esz) (hn:r.new=[.vec true k m]) (hw:r.wr=[.gone]) (ht:eH bs 0=[t])
  (hv: ∀ ρ,v.den ρ=r.val.den (nZ bs.length [.hw t z 0 hi] ρ)) (hl:aN h t=some (.vec true k l)) (h0:0≤hi) (h1:hi≤(l.length:Int)) (he:l.take hi.toNat=m):bW bs r v h:=by
 subst hz
 exact .src hn (.inr (.inr ⟨t,hi,true,k,l, .inr ⟨0,by rw[ht];rfl,by rw[hw];rfl⟩,rfl,hl,h0,h1, .vec he⟩)) hv fun c hc=>by rw[hw] at hc;simpa using hc
theorem bW.whole {bs:List Blk} {r:LW} {v:XV} {h:bT} {t:Nat} {k:RK} {l m:List k.ty} (hn:r.new=[.vec true k m]) (hw:r.wr=[.gone]) (ht:eH bs 0=[t])
  (hv: ∀ ρ,v.den ρ=r.val.den (nZ bs.length [.hs t] ρ)) (hl:aN h t=some (.vec true k l)) (he:l=m):bW bs r v h:=
 .src hn (.inl ⟨t,_, .inr ⟨0,by rw[ht];rfl,by rw[hw];rfl⟩, .inl rfl,hl, .vec he⟩) hv fun c hc=>by rw[hw] at hc;simpa using hc
section
variable {ρ ρ':Rho}
theorem dB {a c:Bool} (h:a=c):(XV.c (.s (.bool a))).den ρ=(XV.c (.s (.bool c))).den ρ':=by subst h;rfl
theorem dI {k:IntKind} {a c:Int} (h:a=c):(XV.c (.s (.int k a))).den ρ=(XV.c (.s (.int k c))).den ρ':=by subst h;rfl
theorem dL {k:IntKind} {a c:Int} (h:a=c):(XV.c (.s (.lit k a))).den ρ=(XV.c (.s (.int k c))).den ρ':=by subst h;rfl
end
end Go.Eng
