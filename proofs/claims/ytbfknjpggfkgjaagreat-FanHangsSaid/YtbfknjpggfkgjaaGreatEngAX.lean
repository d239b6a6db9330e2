
import Derived.Test.YtbfknjpggfkgjaaGreatEngZA
set_option linter.all false
set_option exponentiation.threshold 3000
namespace Go.Eng
inductive DK where
 | v | vs | s (k:RK) | p (l:List DK) | f (l:List DK) | w (l:List DK) | sw (k:RK)
structure Cn where
 heap:List Blk
 sc:List Sc
 ob:List Bool
 ids:List Nat
 wi:List (Nat×Option Nat)
def Cn.rd (c:Cn) (b:Blk) (x:Sc) (ob:List Bool) (id:Nat):Option Cn:=
 if c.wi.any (fun p=>p.2 == some id) then none else some ⟨c.heap++[b],c.sc++[x],ob++c.ob,id :: c.ids,c.wi⟩
def Cn.rdN (c:Cn) (b:Blk):Cn:=⟨c.heap++[b],c.sc++[.nils],c.ob,c.ids,c.wi⟩
def Cn.wrt (c:Cn) (b:Blk) (x:Sc) (id:Nat):Option Cn:=
 if c.ids.contains id then none else some ⟨c.heap++[b],c.sc++[x],c.ob,id :: c.ids,c.wi++[(c.heap.length,some id)]⟩
def Cn.wrN (c:Cn) (b:Blk):Cn:=⟨c.heap++[b],c.sc++[.nils],c.ob,c.ids,c.wi++[(c.heap.length,none)]⟩
def At.norm:At→At
 | .s x=> .s x.norm
 | a=>a
def At.flat:At→Bool
 | .s x=>x.flat
 | _=>true
def Ci:List At→Option (List (Nat×Nat))
 | []=>some []
 | .s (.hp i o) :: r=>match Ci r with
  | some l=>some ((i,o) :: l)
  | none=>none
 | _=>none
def cn1 (A:Alg) (h:bT) (rec:List DK→List At→Cn→Option (List At×Cn)) (d:DK) (a:At) (c:Cn):Option (At×Cn):=match d with
 | .v=>if a.flat then some (a.norm,c) else none
 | .vs=>none
 | .s k=>match a with
  | .s .nils=>some (.s (.hs c.heap.length),c.rdN (.vec false k []))
  | .s (.hs id)=>match aN h id with
   | some (.vec _ k' l)=>match c.rd (.vec false k' l) (.hs id) [] id with
    | some c'=>some (.s (.hs c.heap.length),c')
    | none=>none
   | _=>none
  | .s (.hw id z lo hi)=>match aN h id with
   | some (.vec _ k' l)=>if z == k'.esz then match c.rd (.vec false k' (A.sub l lo hi)) (.hw id z lo hi) [A.cmp .leq 0 lo,A.cmp .leq lo hi,A.cmp .leq hi (A.len l)] id with
    | some c'=>some (.s (.hs c.heap.length),c')
    | none=>none else none
   | _=>none
  | _=>none
 | .p ks=>match a with
  | .s (.hp id off)=>match aN h id with
   | some (.fix _ l)=>match j9 400 off l with
    | some l'=>match rec ks l' c with
     | some (m,c1)=>match c1.rd (.fix false m) (.hp id off) [] id with
      | some c2=>some (.s (.hp c1.heap.length 0),c2)
      | none=>none
     | none=>none
    | none=>none
   | _=>none
  | _=>none
 | .f ks=>match a with
  | .s (.fn g caps)=>match rec ks (caps.map fun c=> .s (.hp c.1 c.2)) c with
   | some (m,c1)=>match Ci m with
    | some cs=>some (.s (.fn g cs),c1)
    | none=>none
   | none=>none
  | _=>none
 | .w ks=>match a with
  | .s (.hp id 0)=>match aN h id with
   | some (.fix true l)=>match rec ks l c with
    | some (m,c1)=>match c1.wrt (.fix true m) (.hp id 0) id with
     | some c2=>some (.s (.hp c1.heap.length 0),c2)
     | none=>none
    | none=>none
   | _=>none
  | _=>none
 | .sw k=>match a with
  | .s .nils=>some (.s (.hs c.heap.length),c.wrN (.vec true k []))
  | .s (.hs id)=>match aN h id with
   | some (.vec true k' l)=>match c.wrt (.vec true k' l) (.hs id) id with
    | some c'=>some (.s (.hs c.heap.length),c')
    | none=>none
   | _=>none
  | _=>none
def cn (A:Alg) (h:bT):Nat→List DK→List At→Cn→Option (List At×Cn)
 | 0,_,_,_=>none
 | n+1,ds,as,c=>match ds with
  | []=>match as with
   | []=>some ([],c)
   | _ :: _=>none
  | [.vs]=>if amT as then some (q9 as,c) else none
  | d :: ds=>match as with
   | []=>none
   | a :: r=>match cn1 A h (cn A h n) d a c with
    | some (a',c')=>match cn A h n ds r c' with
     | some (r',c'')=>some (a' :: r',c'')
     | none=>none
    | none=>none
inductive GK where
 | a (d:DK) | g (l:List DK)
def mK (A:Alg) (h:bT):List GK→List CV→Cn→Option (List CV×Cn)
 | [],[],c=>some ([],c)
 | d :: ds,x :: xs,c=>match d,x with
  | .a d, .s y=>match cn A h 60 [d] [.s y] c with
   | some ([.s z],c')=>match mK A h ds xs c' with
    | some (zs,c'')=>some (.s z :: zs,c'')
    | none=>none
   | _=>none
  | .a .v, .g l=>if amT l then match mK A h ds xs c with
    | some (zs,c'')=>some (.g (q9 l) :: zs,c'')
    | none=>none else none
  | .g ks, .g l=>match cn A h 60 ks l c with
   | some (m,c')=>match mK A h ds xs c' with
    | some (zs,c'')=>some (.g m :: zs,c'')
    | none=>none
   | none=>none
  | _,_=>none
 | _,_,_=>none
def cn0:Cn:=⟨[],[],[],[],[]⟩
section
variable {w0 w:World} {Wr:jH} {ρ:Rho} {h:bT} {n:Ids}
def y5 (ρ:Rho) (c:Cn) (ρ':Rho):Prop:= ∀ i x,c.sc[i]? =some x→ρ' i=x.den ρ
def Iy (h:bT) (ρ:Rho) (ids:List Nat) (x:Sc):Option Nat→Prop
 | some id=>id∈ids∧ ∃ k,aN h id=some k∧k.own=true∧x.den ρ=ρ id
 | none=>bK (x.den ρ)=none
structure nQ (w:World) (ρ:Rho) (h:bT) (n:Ids) (c:Cn):Prop where
 len:c.heap.length=c.sc.length
 blk: ∀ (i:Nat) (x:Sc) (b:Blk),c.sc[i]? =some x→c.heap[i]? =some b→b.live=true∧(∀ ρ',y5 ρ c ρ'→b.ok w (x.den ρ) ρ')∧(∀ ρ',b.stb (fun i=>i < c.sc.length) ρ')∧(x.den ρ).oneCell'=true
 scs: ∀ x,x∈c.sc→anI n ρ x
 at_: ∀ x,x∈c.sc→ ∀ y,bK (x.den ρ)=some y→ ∃ id k,id∈c.ids∧aN h id=some k∧k.live=true∧bK (ρ id)=some y
 own: ∀ (i:Nat) (x:Sc) (b:Blk),c.sc[i]? =some x→c.heap[i]? =some b→b.own=true→ ∃ o,(i,o)∈c.wi∧Iy h ρ c.ids x o
 wis: ∀ q o,(q,o)∈c.wi→ ∃ x b,c.sc[q]? =some x∧c.heap[q]? =some b∧b.own=true∧Iy h ρ c.ids x o
 nod:(c.wi.filterMap (·.2)).Nodup
 idx:eH c.heap 0=c.wi.map (·.1)
 sep: ∀ (i:Nat) (x:Sc) (b:Blk) (i':Nat) (x':Sc),c.sc[i]? =some x→c.heap[i]? =some b→c.sc[i']? =some x'→i≠i'→b.own=true→ ∀ y,bK (x.den ρ)=some y→bK (x'.den ρ)≠some y
theorem fH {α:Type} {l:List α} {a x:α} {i:Nat} (h:(l++[a])[i]? =some x):(i < l.length∧l[i]? =some x)∨(i=l.length∧a=x):=by
 by_cases hi:i < l.length
 ·rw[List.getElem?_append_left hi] at h;exact .inl ⟨hi,h⟩
 ·rw[List.getElem?_append_right (by omega)] at h
  have:i - l.length=0:=by
   have:=(List.getElem?_eq_some_iff.1 h).1
   simp at this;omega
  rw[this] at h
  simp at h
  exact .inr ⟨by omega,h⟩
theorem qP {α:Type} {l:List α} {a x:α} {i:Nat} (h:l[i]? =some x):(l++[a])[i]? =some x:=by
 rw[List.getElem?_append_left (List.getElem?_eq_some_iff.1 h).1];exact h
theorem pJ {α:Type} {l:List α} {a:α} :(l++[a])[l.length]? =some a:=by simp
theorem rD: ∀ (l:List Blk) (b:Blk) (j:Nat),eH (l++[b]) j=eH l j++(if b.own then[j+l.length] else[])
 | [],b,j=>by simp[eH]
 | a :: r,b,j=>by
  have e:j+1+r.length=j+(a :: r).length:=by simp only[List.length_cons];omega
  simp only[List.cons_append,eH,rD r b (j+1),e]
  split <;> rfl
theorem y5.old {ρ:Rho} {c:Cn} {b:Blk} {x:Sc} {ob:List Bool} {ids:List Nat} {wi:List (Nat×Option Nat)} {ρ':Rho} (hf:y5 ρ ⟨c.heap++[b],c.sc++[x],ob,ids,wi⟩ ρ'):y5 ρ c ρ':=fun i y hy=>hf i y (qP hy)
theorem Iy.mono {h:bT} {ρ:Rho} {ids ids':List Nat} {x:Sc} {o:Option Nat} (hs: ∀ i,i∈ids→i∈ids') (ho:Iy h ρ ids x o):Iy h ρ ids' x o:=by
 cases o with
 | none=>exact ho
 | some id=>exact⟨hs _ ho.1,ho.2⟩
theorem nQ.add {c:Cn} (hc:nQ w ρ h n c) (hs:HS w0 Wr ρ h n w) {b:Blk} {x:Sc} {ob:List Bool} {ids:List Nat} {wi:List (Nat×Option Nat)}
  (h1:b.live=true) (h3: ∀ ρ',y5 ρ c ρ'→b.ok w (x.den ρ) ρ') (h5: ∀ ρ',b.stb (fun i=>i < c.sc.length) ρ') (h4:(x.den ρ).oneCell'=true) (h6:anI n ρ x)
  (hids: ∀ id,id∈c.ids→id∈ids)
  (hat: ∀ z,bK (x.den ρ)=some z→ ∃ id k,id∈ids∧aN h id=some k∧k.live=true∧bK (ρ id)=some z∧ ∀ q id',(q,some id')∈c.wi→id'≠id)
  (hown:(b.own=false∧wi=c.wi)∨(∃ id k,wi=c.wi++[(c.heap.length,some id)]∧aN h id=some k∧k.own=true∧x.den ρ=ρ id∧id∉c.ids∧id∈ids∧b.own=true)∨
   (wi=c.wi++[(c.heap.length,none)]∧bK (x.den ρ)=none∧b.own=true)) :
  nQ w ρ h n ⟨c.heap++[b],c.sc++[x],ob,ids,wi⟩:=by
 have hl:=hc.len
 have fE: ∀ p,p∈c.wi→p∈wi:=fun p hp=>by
  rcases hown with ⟨_,rfl⟩ | ⟨id,k,rfl,_⟩ | ⟨rfl,_⟩
  ·exact hp
  ·exact List.mem_append_left _ hp
  ·exact List.mem_append_left _ hp
 have hownl:b.own=true→ ∃ o,(c.heap.length,o)∈wi∧Iy h ρ ids x o:=fun ho=>by
  rcases hown with ⟨h0,_⟩ | ⟨id,k,rfl,g1,g2,g3,g4,g5,g6⟩ | ⟨rfl,g1,g2⟩
  ·rw[h0] at ho;cases ho
  ·exact⟨some id,by simp,g5,k,g1,g2,g3⟩
  ·exact⟨none,by simp,g1⟩
 exact {
  len:=by simp[hl]
  blk:=fun i x' b' hx hb=>by
   rcases fH hx with ⟨hi,hx⟩ | ⟨hi,rfl⟩
   ·rcases fH hb with ⟨_,hb⟩ | ⟨hi',_⟩
    ·obtain⟨g1,g2,g3,g4⟩:=hc.blk i x' b' hx hb
     exact⟨g1,fun ρ' hf=>g2 ρ' hf.old,fun ρ'=>Blk.stb_move (g3 ρ') (bZ.refl _ _) (fun i hi=>by simp only[List.length_append,List.length_cons,List.length_nil];omega),g4⟩
    ·omega
   ·rcases fH hb with ⟨hi',_⟩ | ⟨_,rfl⟩
    ·omega
    ·exact⟨h1,fun ρ' hf=>h3 ρ' hf.old,fun ρ'=>Blk.stb_move (h5 ρ') (bZ.refl _ _) (fun i hi=>by simp only[List.length_append,List.length_cons,List.length_nil];omega),h4⟩
  scs:=fun x' hx=>by
   rcases List.mem_append.1 hx with hx | hx
   ·exact hc.scs x' hx
   ·simp at hx;subst hx;exact h6
  at_:=fun x' hx z hz=>by
   rcases List.mem_append.1 hx with hx | hx
   ·obtain⟨id,k,g1,g2⟩:=hc.at_ x' hx z hz
    exact⟨id,k,hids id g1,g2⟩
   ·simp at hx;subst hx
    obtain⟨id,k,g1,g2,g3,g4,_⟩:=hat z hz
    exact⟨id,k,g1,g2,g3,g4⟩
  own:=fun i x' b' hx hb ho=>by
   rcases fH hx with ⟨hi,hx⟩ | ⟨hi,rfl⟩
   ·rcases fH hb with ⟨_,hb⟩ | ⟨hi',_⟩
    ·obtain⟨o,g1,g2⟩:=hc.own i x' b' hx hb ho
     exact⟨o,fE _ g1,g2.mono hids⟩
    ·omega
   ·rcases fH hb with ⟨hi',_⟩ | ⟨hi',rfl⟩
    ·omega
    ·rw[hi'];exact hownl ho
  wis:=fun q o hq=>by
   have old:(q,o)∈c.wi→ ∃ x' b',(c.sc++[x])[q]? =some x'∧(c.heap++[b])[q]? =some b'∧b'.own=true∧Iy h ρ ids x' o:=fun hq=>by
    obtain⟨x',b',g1,g2,g3,g4⟩:=hc.wis q o hq
    exact⟨x',b',qP g1,qP g2,g3,g4.mono hids⟩
   have hsl:(c.sc++[x])[c.heap.length]? =some x:=by rw[hl];exact pJ
   rcases hown with ⟨_,rfl⟩ | ⟨id,k,rfl,g1,g2,g3,g4,g5,g6⟩ | ⟨rfl,g1,g2⟩
   ·exact old hq
   ·rcases List.mem_append.1 hq with hq | hq
    ·exact old hq
    ·simp at hq
     obtain⟨rfl,rfl⟩:=hq
     exact⟨x,b,hsl,pJ,g6,g5,k,g1,g2,g3⟩
   ·rcases List.mem_append.1 hq with hq | hq
    ·exact old hq
    ·simp at hq
     obtain⟨rfl,rfl⟩:=hq
     exact⟨x,b,hsl,pJ,g2,g1⟩
  nod:=by
   rcases hown with ⟨_,rfl⟩ | ⟨id,k,rfl,g1,g2,g3,g4,g5,g6⟩ | ⟨rfl,g1,g2⟩
   ·exact hc.nod
   ·rw[List.filterMap_append]
    refine List.nodup_append.2 ⟨hc.nod,by simp,fun a ha b' hb'=>?_⟩
    simp at hb'
    subst hb'
    rintro rfl
    obtain⟨⟨q,o⟩,hp,he⟩:=List.mem_filterMap.1 ha
    simp only at he
    subst he
    obtain⟨_,_,_,_,_,g7⟩:=hc.wis q _ hp
    exact g4 g7.1
   ·simpa using hc.nod
  idx:=by
   rw[rD]
   rcases hown with ⟨h0,rfl⟩ | ⟨id,k,rfl,g1,g2,g3,g4,g5,g6⟩ | ⟨rfl,g1,g2⟩
   ·rw[h0];simp[hc.idx]
   ·rw[g6];simp[hc.idx]
   ·rw[g2];simp[hc.idx]
  sep:=fun i x1 b1 i' x2 hx1 hb1 hx2 hij ho z hz hz2=>by
   rcases fH hx1 with ⟨hi,hx1⟩ | ⟨hi,rfl⟩
   ·rcases fH hb1 with ⟨_,hb1⟩ | ⟨hi',_⟩
    ·rcases fH hx2 with ⟨_,hx2⟩ | ⟨hi2,rfl⟩
     ·exact hc.sep i x1 b1 i' x2 hx1 hb1 hx2 hij ho z hz hz2
     ·obtain⟨o,e1,e2⟩:=hc.own i x1 b1 hx1 hb1 ho
      cases o with
      | none=>rw[show bK (x1.den ρ)=none from e2] at hz;cases hz
      | some id=>
       obtain⟨e3,k,e4,e5,e6⟩:=e2
       obtain⟨id',k',f1,f2,f3,f4,f5⟩:=hat z hz2
       rw[e6] at hz
       exact hs.sep id k id' k' e4 f2 (f5 _ id e1) e5 f3 z hz f4
    ·omega
   ·rcases fH hb1 with ⟨hi',_⟩ | ⟨_,rfl⟩
    ·omega
    rcases fH hx2 with ⟨_,hx3⟩ | ⟨hi2,rfl⟩
    ·rcases hown with ⟨h0,_⟩ | ⟨id,k,rfl,g1,g2,g3,g4,g5,g6⟩ | ⟨rfl,g1,g2⟩
     ·rw[h0] at ho;cases ho
     ·obtain⟨id',k',e1,e2,e3,e4⟩:=hc.at_ x2 (List.mem_of_getElem? hx3) z hz2
      rw[g3] at hz
      exact hs.sep id k id' k' g1 e2 (fun e=>by subst e;exact g4 e1) g2 e3 z hz e4
     ·rw[g1] at hz;cases hz
    ·omega }
theorem nQ.rd {c c':Cn} (hc:nQ w ρ h n c) (hs:HS w0 Wr ρ h n w) {x:Sc} {b:Blk} {ob:List Bool} {id:Nat} (e:c.rd b x ob id=some c') {k:Blk} (hk:aN h id=some k) (hkl:k.live=true)
  (hx: ∀ z,bK (x.den ρ)=some z→bK (ρ id)=some z) (h1:b.live=true) (h1':b.own=false) (h3: ∀ ρ',y5 ρ c ρ'→b.ok w (x.den ρ) ρ') (h5: ∀ ρ',b.stb (fun i=>i < c.sc.length) ρ')
  (h4:(x.den ρ).oneCell'=true) (h6:anI n ρ x):nQ w ρ h n c':=by
 unfold Cn.rd at e
 split at e
 ·cases e
 ·rename_i hn
  simp only[Option.some.injEq] at e
  subst e
  refine hc.add hs h1 h3 h5 h4 h6 (fun i hi=>List.mem_cons_of_mem _ hi) (fun z hz=>⟨id,k,List.mem_cons_self ..,hk,hkl,hx z hz,fun q id' hq he=>?_⟩) (.inl ⟨h1',rfl⟩)
  subst he
  exact hn (List.any_eq_true.2 ⟨_,hq,by simp⟩)
theorem nQ.wrt {c c':Cn} (hc:nQ w ρ h n c) (hs:HS w0 Wr ρ h n w) {x:Sc} {b:Blk} {id:Nat} (e:c.wrt b x id=some c') {k:Blk} (hk:aN h id=some k) (hko:k.own=true)
  (hx:x.den ρ=ρ id) (h1':b.own=true) (h3: ∀ ρ',y5 ρ c ρ'→b.ok w (x.den ρ) ρ') (h5: ∀ ρ',b.stb (fun i=>i < c.sc.length) ρ')
  (h4:(x.den ρ).oneCell'=true) (h6:anI n ρ x):nQ w ρ h n c':=by
 unfold Cn.wrt at e
 split at e
 ·cases e
 ·rename_i hn
  simp only[Option.some.injEq] at e
  subst e
  have hn':id∉c.ids:=fun hi=>hn (by simpa using hi)
  refine hc.add hs (Blk.live_own h1') h3 h5 h4 h6 (fun i hi=>List.mem_cons_of_mem _ hi) (fun z hz=>⟨id,k,List.mem_cons_self ..,hk,Blk.live_own hko,by rw[← hx];exact hz,fun q id' hq he=>?_⟩)
   (.inr (.inl ⟨id,k,rfl,hk,hko,hx,hn',List.mem_cons_self ..,h1'⟩))
  subst he
  obtain⟨_,_,_,_,_,g7⟩:=hc.wis q _ hq
  exact hn' g7.1
theorem nQ.rdN {c:Cn} (hc:nQ w ρ h n c) (hs:HS w0 Wr ρ h n w) (k:RK):nQ w ρ h n (c.rdN (.vec false k [])):=
 hc.add hs rfl (fun _ _=>⟨none,0,rfl,Nat.le_refl _,rfl,rfl⟩) (fun _=>trivial) rfl trivial (fun _ h=>h) (fun z hz=>by cases hz) (.inl ⟨rfl,rfl⟩)
theorem nQ.wrN {c:Cn} (hc:nQ w ρ h n c) (hs:HS w0 Wr ρ h n w) (k:RK):nQ w ρ h n (c.wrN (.vec true k [])):=
 hc.add hs rfl (fun _ _=>⟨none,0,rfl,Nat.le_refl _,rfl,rfl⟩) (fun _=>trivial) rfl trivial (fun _ h=>h) (fun z hz=>by cases hz) (.inr (.inr ⟨rfl,rfl,rfl⟩))
structure anN (w:World) (ρ:Rho) (h:bT) (n:Ids) (c c':Cn) (as l:List At):Prop where
 ok:nQ w ρ h n c'
 ext: ∃ e,c'.sc=c.sc++e
 den: ∀ ρ',y5 ρ c' ρ'→aI ρ' l=aI ρ as
 stb: ∀ ρ',kY (fun i=>i < c'.sc.length) ρ' l
theorem y5.ext {c c':Cn} (he: ∃ e,c'.sc=c.sc++e) {ρ':Rho} (hf:y5 ρ c' ρ'):y5 ρ c ρ':=fun i x hx=>by
 obtain⟨e,he⟩:=he
 refine hf i x ?_
 rw[he,List.getElem?_append_left (List.getElem?_eq_some_iff.1 hx).1]
 exact hx
theorem xS {c c':Cn} (he: ∃ e,c'.sc=c.sc++e):c.sc.length≤c'.sc.length:=by
 obtain⟨e,he⟩:=he
 rw[he,List.length_append];omega
theorem mQ {a b c:Cn} (h1: ∃ e,b.sc=a.sc++e) (h2: ∃ e,c.sc=b.sc++e): ∃ e,c.sc=a.sc++e:=by
 obtain⟨e,h1⟩:=h1
 obtain⟨f,h2⟩:=h2
 exact⟨e++f,by rw[h2,h1,List.append_assoc]⟩
theorem Cn.rd_eq {c c':Cn} {b:Blk} {x:Sc} {ob:List Bool} {id:Nat} (e:c.rd b x ob id=some c'):c'=⟨c.heap++[b],c.sc++[x],ob++c.ob,id :: c.ids,c.wi⟩:=by
 unfold Cn.rd at e
 split at e
 ·cases e
 ·exact(Option.some.inj e).symm
theorem Cn.wrt_eq {c c':Cn} {b:Blk} {x:Sc} {id:Nat} (e:c.wrt b x id=some c'):c'=⟨c.heap++[b],c.sc++[x],c.ob,id :: c.ids,c.wi++[(c.heap.length,some id)]⟩:=by
 unfold Cn.wrt at e
 split at e
 ·cases e
 ·exact(Option.some.inj e).symm
theorem At.norm_cells (a:At) (ρ:Rho):a.norm.cells ρ=a.cells ρ:=by
 cases a with
 | s x=>simp only[At.norm,At.cells,Sc.norm_den]
 | _=>rfl
theorem At.flat_cells {a:At} (hf:a.flat=true) (ρ ρ':Rho):a.cells ρ'=a.cells ρ:=by
 cases a with
 | s x=>simp only[At.cells];rw[Sc.flat_den hf ρ ρ']
 | _=>rfl
theorem eO (a:At) (ρ:Rho):aI ρ [a]=a.cells ρ:=by simp[aI]
theorem jW {c c':Cn} (ok:nQ w ρ h n c') {hp:List Blk} {x:Sc} {ob:List Bool} {ids:List Nat} {wi:List (Nat×Option Nat)} {c1:Cn} (hl:c1.heap.length=c1.sc.length)
  (hext: ∃ e,c1.sc=c.sc++e) (e:c'=⟨hp,c1.sc++[x],ob,ids,wi⟩) {y:Sc} (hy:y= .hs c1.heap.length∨y= .hp c1.heap.length 0) {x':Sc} (hx':x'.den ρ=x.den ρ) :
  anN w ρ h n c c' [.s x'] [.s y]:=by
 subst e
 refine⟨ok,mQ hext ⟨[x],rfl⟩,fun ρ' hf=>?_,fun ρ' ρ'' ha=>?_⟩
 ·have h1:=hf c1.heap.length x (by rw[hl];exact pJ)
  rw[eO,eO]
  show[y.den ρ']=[x'.den ρ]
  rw[hx', ← h1]
  rcases hy with rfl | rfl
  ·rfl
  ·show[cF _ 0]=_
   rw[fU]
 ·have h1:=ha c1.heap.length (by simp only[List.length_append,List.length_cons,List.length_nil,hl];omega)
  simp only[aI,At.cells]
  rcases hy with rfl | rfl <;> simp only[Sc.den,h1]
theorem ai5: ∀ {m:List At} {cs:List (Nat×Nat)},Ci m=some cs→m=cs.map fun c=> .s (.hp c.1 c.2)
 | [],cs,e=>by simp only[Ci,Option.some.injEq] at e;subst e;rfl
 | a :: r,cs,e=>by
  unfold Ci at e
  split at e
  ·rename_i heq;cases heq
  ·rename_i i o r' heq
   obtain⟨rfl,rfl⟩:=List.cons.inj heq
   split at e
   ·rename_i l hl
    simp only[Option.some.injEq] at e
    subst e
    rw[ai5 hl];rfl
   ·cases e
  ·cases e
theorem iZ (ρ:Rho): ∀ cs:List (Nat×Nat),aI ρ (cs.map fun c=> .s (.hp c.1 c.2))=cs.map fun c=>cF (ρ c.1) c.2
 | []=>rfl
 | c :: r=>by simp only[List.map_cons,aI,At.cells,Sc.den,iZ ρ r,List.cons_append,List.nil_append]
def MQ (w:World) (ρ:Rho) (h:bT) (n:Ids) (rec:List DK→List At→Cn→Option (List At×Cn)):Prop:=
 ∀ ds as c l c',rec ds as c=some (l,c')→(∀ b,b∈c.ob→b∈c'.ob)∧((∀ b,b∈c'.ob→b=true)→nQ w ρ h n c→anN w ρ h n c c' as l)
theorem Cr {A:Alg} (hA:A=aA) (hs:HS w0 Wr ρ h n w) {rec:List DK→List At→Cn→Option (List At×Cn)} (hrec:MQ w ρ h n rec) {d:DK} {a:At} {c:Cn} {a':At} {c':Cn}
  (e:cn1 A h rec d a c=some (a',c')):(∀ b,b∈c.ob→b∈c'.ob)∧((∀ b,b∈c'.ob→b=true)→nQ w ρ h n c→anN w ρ h n c c' [a] [a']):=by
 cases d with
 | vs=>cases e
 | v=>
  simp only[cn1] at e
  split at e
  ·rename_i hf
   simp only[Option.some.injEq,Prod.mk.injEq] at e
   obtain⟨rfl,rfl⟩:=e
   refine⟨fun b hb=>hb,fun _ hc=>⟨hc,⟨[],by simp⟩,fun ρ' _=>?_,fun ρ' ρ'' _=>?_⟩⟩
   ·rw[eO,eO,At.norm_cells,At.flat_cells hf ρ ρ']
   ·rw[eO,eO,At.norm_cells,At.norm_cells,At.flat_cells hf ρ' ρ'']
  ·cases e
 | s k=>
  simp only[cn1] at e
  split at e
  ·simp only[Option.some.injEq,Prod.mk.injEq] at e
   obtain⟨rfl,rfl⟩:=e
   exact⟨fun b hb=>hb,fun _ hc=>jW (c1:=c) (hc.rdN hs k) hc.len ⟨[],by simp⟩ rfl (.inl rfl) rfl⟩
  ·rename_i id
   split at e
   ·rename_i o k' l hl
    split at e
    ·rename_i c2 hr
     simp only[Option.some.injEq,Prod.mk.injEq] at e
     obtain⟨rfl,rfl⟩:=e
     have e2:=Cn.rd_eq hr
     refine⟨fun b hb=>by rw[e2];simp[hb],fun _ hc=>?_⟩
     obtain⟨hn,hok,_⟩:=hs.ok id _ hl
     have hok': ∀ ρ',(Blk.vec false k' l).ok w (ρ id) ρ':=fun ρ'=>by
      obtain⟨base,cap,g1,g2,g3⟩:=hok
      refine⟨base,cap,g1,g2,?_⟩
      cases base with
      | none=>exact g3
      | some a=>
       obtain⟨b,o,g4,g5,g6,_⟩:=g3
       exact⟨b,o,g4,g5,g6,fun e=>by cases e⟩
     exact jW (c1:=c) (hc.rd hs hr hl rfl (fun z hz=>hz) rfl rfl (fun ρ' _=>hok' ρ') (fun _=>trivial) (hs.one id) hn) hc.len ⟨[],by simp⟩ e2 (.inl rfl) rfl
    ·cases e
   ·cases e
  ·rename_i id z lo hi
   split at e
   ·rename_i o k' l hl
    split at e
    ·rename_i hz
     split at e
     ·rename_i c2 hr
      simp only[Option.some.injEq,Prod.mk.injEq] at e
      obtain⟨rfl,rfl⟩:=e
      have e2:=Cn.rd_eq hr
      refine⟨fun b hb=>by rw[e2];simp[hb],fun ho hc=>?_⟩
      have hz':z=k'.esz:=by simpa using hz
      have hcan:dF A h [.s k'] [.s (.hw id z lo hi)] 0=some ⟨[.s (.hs 0)],[.vec false k' (A.sub l lo hi)],[.hw id z lo hi],[A.cmp .leq 0 lo,A.cmp .leq lo hi,A.cmp .leq hi (A.len l)],[id],[]⟩:=by
       simp only[dF,hl,hz',beq_self_eq_true,if_true]
       rfl
      have hob: ∀ b,b∈[A.cmp .leq 0 lo,A.cmp .leq lo hi,A.cmp .leq hi (A.len l)]→b=true:=fun b hb=>ho b (by rw[e2];exact List.mem_append_left _ hb)
      have hc0:=cB hA hs hcan hob
      obtain⟨g1,g2,g3,g4⟩:=hc0.blk 0 _ _ rfl rfl
      have g5:=hc0.scs (.hw id z lo hi) (by simp)
      have hx: ∀ y,bK ((Sc.hw id z lo hi).den ρ)=some y→bK (ρ id)=some y:=fun y hy=>by
       obtain⟨g5,base,len,cap,g6,_⟩:=g5
       exact HT g6 y hy
      exact jW (c1:=c) (hc.rd hs hr hl rfl hx rfl rfl (fun ρ' _=>Blk.flat_ok g2 ρ' g3) (fun _=>trivial) g4 g5) hc.len ⟨[],by simp⟩ e2 (.inl rfl) rfl
     ·cases e
    ·cases e
   ·cases e
  ·cases e
 | p ks=>
  simp only[cn1] at e
  split at e
  ·rename_i id off
   split at e
   ·rename_i o l hl
    split at e
    ·rename_i l' hl'
     split at e
     ·rename_i m c1 hm
      split at e
      ·rename_i c2 hr
       simp only[Option.some.injEq,Prod.mk.injEq] at e
       obtain⟨rfl,rfl⟩:=e
       have e2:=Cn.rd_eq hr
       obtain⟨r1,r2⟩:=hrec _ _ _ _ _ hm
       refine⟨fun b hb=>by rw[e2];simp[r1 b hb],fun ho hc=>?_⟩
       have st:=r2 (fun b hb=>ho b (by rw[e2];simp[hb])) hc
       obtain⟨b,o',h1,h2,h3,h4,h5,h6⟩:=hs.fix hl
       obtain⟨g1,g2⟩:=fX ρ _ _ _ _ hl'
       have hd:(Sc.hp id off).den ρ= .pointer (some ⟨b,o'+off,none⟩):=fR h1
       have hok:nQ w ρ h n c2:=st.ok.rd hs hr hl rfl (uD (own:=o) (l:=l) h1) rfl rfl (fun ρ' hf=>⟨b,o'+off,hd,h2,by
         rw[st.den ρ' hf,g2]
         intro q v hv
         have:=h3 (off+q) v (by simpa using hv)
         rw[← Nat.add_assoc] at this
         exact this,fun e=>by cases e⟩) (fun ρ'=>st.stb ρ') (by rw[hd];rfl) ⟨h5,b,o',h1⟩
       exact jW (c1:=c1) hok st.ok.len st.ext e2 (.inr rfl) rfl
      ·cases e
     ·cases e
    ·cases e
   ·cases e
  ·cases e
 | f ks=>
  simp only[cn1] at e
  split at e
  ·rename_i g caps
   split at e
   ·rename_i m c1 hm
    split at e
    ·rename_i cs hcs
     simp only[Option.some.injEq,Prod.mk.injEq] at e
     obtain⟨rfl,rfl⟩:=e
     obtain⟨r1,r2⟩:=hrec _ _ _ _ _ hm
     refine⟨r1,fun ho hc=>?_⟩
     have st:=r2 ho hc
     have em:=ai5 hcs
     refine⟨st.ok,st.ext,fun ρ' hf=>?_,fun ρ' ρ'' ha=>?_⟩
     ·have:=st.den ρ' hf
      rw[em,iZ,iZ] at this
      simp only[aI,At.cells,Sc.den,this]
     ·have:=st.stb ρ' ρ'' ha
      rw[em,iZ,iZ] at this
      simp only[aI,At.cells,Sc.den,this]
    ·cases e
   ·cases e
  ·cases e
 | w ks=>
  simp only[cn1] at e
  split at e
  ·rename_i id
   split at e
   ·rename_i l hl
    split at e
    ·rename_i m c1 hm
     split at e
     ·rename_i c2 hr
      simp only[Option.some.injEq,Prod.mk.injEq] at e
      obtain⟨rfl,rfl⟩:=e
      have e2:=Cn.wrt_eq hr
      obtain⟨r1,r2⟩:=hrec _ _ _ _ _ hm
      refine⟨fun b hb=>by rw[e2];exact r1 b hb,fun ho hc=>?_⟩
      have st:=r2 (fun b hb=>ho b (by rw[e2];exact hb)) hc
      obtain⟨hn,⟨b,o',h1,h2,h3,h4⟩,_⟩:=hs.ok id _ hl
      have hd:(Sc.hp id 0).den ρ=ρ id:=fU _
      have hsz:bO m=bO l:=by
       have:=congrArg List.length (st.den (fun i=>match c1.sc[i]? with
        | some x=>x.den ρ
        | none=> .pointer none) (fun i x hx=>by simp only[hx]))
       rwa [flats_length,flats_length] at this
      have hok:nQ w ρ h n c2:=st.ok.wrt hs hr hl rfl hd rfl (fun ρ' hf=>by
        rw[hd]
        exact⟨b,o',h1,h2,by rw[st.den ρ' hf];exact h3,fun e=>by rw[hsz];exact h4 e⟩) (fun ρ'=>st.stb ρ') (by rw[hd];exact hs.one id) ⟨hn,b,o',h1⟩
      exact jW (c1:=c1) hok st.ok.len st.ext e2 (.inr rfl) rfl
     ·cases e
    ·cases e
   ·cases e
  ·cases e
 | sw k=>
  simp only[cn1] at e
  split at e
  ·simp only[Option.some.injEq,Prod.mk.injEq] at e
   obtain⟨rfl,rfl⟩:=e
   exact⟨fun b hb=>hb,fun _ hc=>jW (c1:=c) (hc.wrN hs k) hc.len ⟨[],by simp⟩ rfl (.inl rfl) rfl⟩
  ·rename_i id
   split at e
   ·rename_i k' l hl
    split at e
    ·rename_i c2 hr
     simp only[Option.some.injEq,Prod.mk.injEq] at e
     obtain⟨rfl,rfl⟩:=e
     have e2:=Cn.wrt_eq hr
     refine⟨fun b hb=>by rw[e2];exact hb,fun _ hc=>?_⟩
     obtain⟨hn,hok,_⟩:=hs.ok id _ hl
     exact jW (c1:=c) (hc.wrt hs hr hl rfl rfl rfl (fun ρ' _=>Blk.flat_ok rfl ρ' hok) (fun _=>trivial) (hs.one id) hn) hc.len ⟨[],by simp⟩ e2 (.inl rfl) rfl
    ·cases e
   ·cases e
  ·cases e
theorem kY.mono' {n m:Nat} {l:List At} (hs: ∀ ρ',kY (fun i=>i < n) ρ' l) (hm:n≤m): ∀ ρ',kY (fun i=>i < m) ρ' l:=fun ρ'=>(hs ρ').mono fun i hi=>by omega
theorem pF {A:Alg} (hA:A=aA) (hs:HS w0 Wr ρ h n w): ∀ f,MQ w ρ h n (cn A h f)
 | 0,ds,as,c,l,c',e=>by cases e
 | f+1,ds,as,c,l,c',e=>by
  have go: ∀ d ds,(match as with
    | []=>none
    | a :: r=>match cn1 A h (cn A h f) d a c with
     | some (a',c')=>match cn A h f ds r c' with
      | some (r',c'')=>some (a' :: r',c'')
      | none=>none
     | none=>none)=some (l,c')→(∀ b,b∈c.ob→b∈c'.ob)∧((∀ b,b∈c'.ob→b=true)→nQ w ρ h n c→anN w ρ h n c c' as l):=fun d ds e=>by
   split at e
   ·cases e
   ·rename_i a r
    split at e
    ·rename_i a' c1 h1
     split at e
     ·rename_i r' c2 h2
      simp only[Option.some.injEq,Prod.mk.injEq] at e
      obtain⟨rfl,rfl⟩:=e
      obtain⟨g1,g2⟩:=Cr hA hs (pF hA hs f) h1
      obtain⟨g3,g4⟩:=pF hA hs f _ _ _ _ _ h2
      refine⟨fun b hb=>g3 b (g1 b hb),fun ho hc=>?_⟩
      have s1:=g2 (fun b hb=>ho b (g3 b hb)) hc
      have s2:=g4 ho s1.ok
      refine⟨s2.ok,mQ s1.ext s2.ext,fun ρ' hf=>?_,fun ρ' ρ'' ha=>?_⟩
      ·have e1:=s1.den ρ' (hf.ext s2.ext)
       rw[eO,eO] at e1
       simp only[aI,e1,s2.den ρ' hf]
      ·have e1:=kY.mono' s1.stb (xS s2.ext) ρ' ρ'' ha
       rw[eO,eO] at e1
       simp only[aI,e1,s2.stb ρ' ρ'' ha]
     ·cases e
    ·cases e
  simp only[cn] at e
  split at e
  ·split at e
   ·simp only[Option.some.injEq,Prod.mk.injEq] at e
    obtain⟨rfl,rfl⟩:=e
    exact⟨fun b hb=>hb,fun _ hc=>⟨hc,⟨[],by simp⟩,fun _ _=>rfl,fun _ _ _=>rfl⟩⟩
   ·cases e
  ·split at e
   ·rename_i hf
    simp only[Option.some.injEq,Prod.mk.injEq] at e
    obtain⟨rfl,rfl⟩:=e
    exact⟨fun b hb=>hb,fun _ hc=>⟨hc,⟨[],by simp⟩,fun ρ' _=>by rw[cP];exact eZ hf _ _,fun ρ' ρ'' _=>by rw[cP,cP];exact eZ hf _ _⟩⟩
   ·cases e
  ·exact go _ _ e
theorem iB {A:Alg} (hA:A=aA) (hs:HS w0 Wr ρ h n w): ∀ {ds:List GK} {xs:List CV} {c:Cn} {ys:List CV} {c':Cn},mK A h ds xs c=some (ys,c')→
  ys.length=ds.length∧(∀ b,b∈c.ob→b∈c'.ob)∧((∀ b,b∈c'.ob→b=true)→nQ w ρ h n c→nQ w ρ h n c'∧(∃ e,c'.sc=c.sc++e)∧(∀ ρ',y5 ρ c' ρ'→ys.map (CV.den ρ')=xs.map (CV.den ρ))∧
   ∀ y,y∈ys→ ∀ ρ',iK (fun i=>i < c'.sc.length) ρ' y)
 | [],[],c,ys,c',e=>by
  simp only[mK,Option.some.injEq,Prod.mk.injEq] at e
  obtain⟨rfl,rfl⟩:=e
  exact⟨rfl,fun b hb=>hb,fun _ hc=>⟨hc,⟨[],by simp⟩,fun _ _=>rfl,fun y hy=>by simp at hy⟩⟩
 | [],_ :: _,_,_,_,e=>by simp[mK] at e
 | _ :: _,[],_,_,_,e=>by simp[mK] at e
 | d :: ds,x :: xs,c,ys,c',e=>by
  simp only[mK] at e
  split at e
  ·rename_i d y
   split at e
   ·rename_i z c1 h1
    split at e
    ·rename_i zs c2 h2
     simp only[Option.some.injEq,Prod.mk.injEq] at e
     obtain⟨rfl,rfl⟩:=e
     obtain⟨g1,g2⟩:=pF hA hs 60 _ _ _ _ _ h1
     obtain⟨g0,g3,g4⟩:=iB hA hs h2
     refine⟨by simp[g0],fun b hb=>g3 b (g1 b hb),fun ho hc=>?_⟩
     have s1:=g2 (fun b hb=>ho b (g3 b hb)) hc
     obtain⟨k1,k2,k3,k4⟩:=g4 ho s1.ok
     refine⟨k1,mQ s1.ext k2,fun ρ' hf=>?_,fun v hv ρ'=>?_⟩
     ·have e1:=s1.den ρ' (hf.ext k2)
      simp only[aI,At.cells,List.append_nil,List.cons.injEq,and_true] at e1
      simp only[List.map_cons,CV.den,e1,k3 ρ' hf]
     ·simp only[List.mem_cons] at hv
      rcases hv with rfl | hv
      ·intro ρ'' ha
       have e1:=kY.mono' s1.stb (xS k2) ρ' ρ'' ha
       simp only[aI,At.cells,List.append_nil,List.cons.injEq,and_true] at e1
       exact e1
      ·exact k4 v hv ρ'
    ·cases e
   ·cases e
  ·rename_i l
   split at e
   ·rename_i hfl
    split at e
    ·rename_i zs c2 h2
     simp only[Option.some.injEq,Prod.mk.injEq] at e
     obtain⟨rfl,rfl⟩:=e
     obtain⟨g0,g3,g4⟩:=iB hA hs h2
     refine⟨by simp[g0],g3,fun ho hc=>?_⟩
     obtain⟨k1,k2,k3,k4⟩:=g4 ho hc
     refine⟨k1,k2,fun ρ' hf=>?_,fun v hv ρ'=>?_⟩
     ·simp only[List.map_cons,CV.den,cP,eZ hfl ρ ρ',k3 ρ' hf]
     ·simp only[List.mem_cons] at hv
      rcases hv with rfl | hv
      ·intro ρ'' ha
       simp only[CV.den,cP]
       rw[eZ hfl ρ' ρ'']
      ·exact k4 v hv ρ'
    ·cases e
   ·cases e
  ·rename_i ks l
   split at e
   ·rename_i m c1 h1
    split at e
    ·rename_i zs c2 h2
     simp only[Option.some.injEq,Prod.mk.injEq] at e
     obtain⟨rfl,rfl⟩:=e
     obtain⟨g1,g2⟩:=pF hA hs 60 _ _ _ _ _ h1
     obtain⟨g0,g3,g4⟩:=iB hA hs h2
     refine⟨by simp[g0],fun b hb=>g3 b (g1 b hb),fun ho hc=>?_⟩
     have s1:=g2 (fun b hb=>ho b (g3 b hb)) hc
     obtain⟨k1,k2,k3,k4⟩:=g4 ho s1.ok
     refine⟨k1,mQ s1.ext k2,fun ρ' hf=>?_,fun v hv ρ'=>?_⟩
     ·simp only[List.map_cons,CV.den,s1.den ρ' (hf.ext k2),k3 ρ' hf]
     ·simp only[List.mem_cons] at hv
      rcases hv with rfl | hv
      ·intro ρ'' ha
       simp only[CV.den,kY.mono' s1.stb (xS k2) ρ' ρ'' ha]
      ·exact k4 v hv ρ'
    ·cases e
   ·cases e
  ·cases e
theorem nQ.zero:nQ w ρ h n cn0:=
 ⟨rfl,fun i x b hx=>by simp[cn0] at hx,fun x hx=>by simp[cn0] at hx,fun x hx=>by simp[cn0] at hx,fun i x b hx=>by simp[cn0] at hx,fun q o hq=>by simp[cn0] at hq,by simp[cn0],rfl,fun i x b i' x' hx=>by simp[cn0] at hx⟩
end
section
variable {w0:World} {Wr:jH} {ρ ρ3:Rho} {h:bT} {n:Ids} {m:Nat} {w:World}
theorem HS.afterN (hs:HS w0 Wr ρ h n w) (hm: ∀ i,n i→i < m) {w':World} {wr:bT} (hwn:(wr.map (·.1)).Nodup) (hb:But (xB ρ wr) w w') (hag:bZ n ρ ρ3) (hone: ∀ i,(ρ3 i).oneCell'=true) {new:List Blk}
  (hwr: ∀ i b,aN wr i=some b→ ∃ k,aN h i=some k∧k.own=true∧b.ok w' (ρ i) ρ3∧b.stb (kZ n m new.length) ρ3)
  (hk: ∀ (q:Nat) (b:Blk),new[q]? =some b→b.ok w' (ρ3 (m+q)) ρ3∧b.stb (kZ n m new.length) ρ3)
  (hnew: ∀ (q:Nat) (b:Blk) (x:Nat),new[q]? =some b→bK (ρ3 (m+q))=some x→w.heap.size≤x∨ ∃ i k,aN wr i=some .gone∧aN h i=some k∧k.own=true∧bK (ρ i)=some x)
  (hsp: ∀ (q q':Nat) (b b':Blk),new[q]? =some b→new[q']? =some b'→q≠q'→ ∀ x,bK (ρ3 (m+q))=some x→bK (ρ3 (m+q'))≠some x) :
  HS w0 Wr ρ3 (rT (oS h wr) m new) (kZ n m new.length) w':=by
 have hold: ∀ i,n i→ρ3 i=ρ i:=fun i hi=>hag i hi
 have hlook: ∀ i b,aN (rT (oS h wr) m new) i=some b→(∃ q,i=m+q∧q < new.length∧new[q]? =some b)∨
   (¬ (m≤i∧i < m+new.length)∧((aN wr i=some b∧ ∃ k,aN h i=some k∧k.own=true)∨(aN wr i=none∧aN h i=some b))):=fun i b hb=>by
  rw[gB] at hb
  split at hb
  ·rename_i hi;exact .inl ⟨i - m,by omega,by omega,hb⟩
  ·rename_i hi
   rw[gS wr h i hwn] at hb
   split at hb
   ·rename_i c' hc'
    obtain⟨k,hk,hko,_⟩:=hwr i c' hc'
    rw[hk] at hb
    simp only[Option.map_some,Option.some.injEq] at hb
    subst hb
    exact .inr ⟨hi, .inl ⟨hc',k,hk,hko⟩⟩
   ·rename_i hc';exact .inr ⟨hi, .inr ⟨hc',hb⟩⟩
 have holdx: ∀ i b x,aN h i=some b→bK (ρ i)=some x→x < w.heap.size:=fun i b x hb hx=>Blk.block (hs.ok i b hb).2.1 hx
 have hkeep: ∀ i b,aN wr i=none→aN h i=some b→b.live=true→ ∀ x,bK (ρ i)=some x→w'.heap[x]? =w.heap[x]? :=fun i b hw hl hlv x hx=>by
  refine hb.block x (holdx i b x hl hx) fun⟨id,b1,g1,g2⟩=>?_
  obtain⟨p,hp⟩:=List.getElem?_of_mem g1
  have hlw:=eC hwn hp
  obtain⟨k,e7,e8,_⟩:=hwr id b1 hlw
  have hne:id≠i:=fun e=>by subst e;rw[hw] at hlw;cases hlw
  exact hs.sep id k i b e7 hl hne e8 hlv x g2 hx
 have hbef: ∀ i b, ¬ (m≤i∧i < m+new.length)→aN (rT (oS h wr) m new) i=some b→ ∃ k,aN h i=some k∧(b.own=true→k.own=true)∧(b.live=true→k.live=true)∧(aN wr i=some .gone→b= .gone):=fun i b hne hl=>by
  rcases hlook i b hl with ⟨q,rfl,hq,_⟩ | ⟨_,⟨hw,k,hk,hko⟩ | ⟨hw,hl⟩⟩
  ·exact absurd ⟨by omega,by omega⟩ hne
  ·exact⟨k,hk,fun _=>hko,fun _=>Blk.live_own hko,fun e=>by rw[hw] at e;simpa using e⟩
  ·exact⟨b,hl,id,id,fun e=>by rw[hw] at e;cases e⟩
 exact {
  one:=hone
  ok:=fun i b hl=>by
   rcases hlook i b hl with ⟨q,rfl,hq,hb2⟩ | ⟨hne,⟨hw,k,hk',_⟩ | ⟨hw,hl⟩⟩
   ·obtain⟨g1,g2⟩:=hk q b hb2
    exact⟨.inr ⟨by omega,by omega⟩,g1,g2⟩
   ·obtain⟨k',e1,e2,e3,e4⟩:=hwr i b hw
    have hni:=(hs.ok i k hk').1
    rw[hold i hni]
    exact⟨.inl hni,e3,e4⟩
   ·obtain⟨g1,g2,g3⟩:=hs.ok i b hl
    rw[hold i g1]
    refine⟨.inl g1,?_,Blk.stb_move g3 hag fun _ hi=> .inl hi⟩
    by_cases hlv:b.live=true
    ·exact Blk.ok_move g3 hag (Blk.ok_of_block hb.size (fun x hx=>hkeep i b hw hl hlv x hx) g2)
    ·cases b with
     | gone=>exact fun x hx=>Nat.lt_of_lt_of_le (g2 x hx) hb.size
     | fix=>exact absurd rfl hlv
     | vec=>exact absurd rfl hlv
  sep:=fun i b j c hi hj hij ho hlv x hx hxj=>by
   by_cases him:m≤i∧i < m+new.length
   ·have hi': ∃ q,i=m+q∧new[q]? =some b:=by
     rcases hlook i b hi with ⟨q,rfl,hq,hb2⟩ | ⟨hne,_⟩
     ·exact⟨q,rfl,hb2⟩
     ·exact absurd him hne
    obtain⟨q,rfl,hq⟩:=hi'
    by_cases hjm:m≤j∧j < m+new.length
    ·rcases hlook j c hj with ⟨q',rfl,hq',hb3⟩ | ⟨hne,_⟩
     ·exact hsp q q' b c hq hb3 (by omega) x hx hxj
     ·exact absurd hjm hne
    ·obtain⟨k,f1,f2,f3,f4⟩:=hbef j c hjm hj
     rw[hold j (hs.ok j k f1).1] at hxj
     rcases hnew q b x hq hx with h1 | ⟨i',k',g1,g2,g3,g4⟩
     ·have:=holdx j k x f1 hxj;omega
     ·by_cases e:i'=j
      ·subst e
       rw[f4 g1] at hlv
       cases hlv
      ·exact hs.sep i' k' j k g2 f1 e g3 (f3 hlv) x g4 hxj
   ·obtain⟨k,e1,e2,e3,e4⟩:=hbef i b him hi
    rw[hold i (hs.ok i k e1).1] at hx
    by_cases hjm:m≤j∧j < m+new.length
    ·have hj': ∃ q,j=m+q∧new[q]? =some c:=by
      rcases hlook j c hj with ⟨q,rfl,hq,hb2⟩ | ⟨hne,_⟩
      ·exact⟨q,rfl,hb2⟩
      ·exact absurd hjm hne
     obtain⟨q,rfl,hq⟩:=hj'
     rcases hnew q c x hq hxj with h1 | ⟨i',k',g1,g2,g3,g4⟩
     ·have:=holdx i k x e1 hx;omega
     ·by_cases e:i'=i
      ·subst e
       rw[e4 g1] at ho
       cases ho
      ·exact hs.sep i k i' k' e1 g2 (fun e'=>e e'.symm) (e2 ho) (Blk.live_own g3) x hx g4
    ·obtain⟨k',f1,f2,f3,_⟩:=hbef j c hjm hj
     rw[hold j (hs.ok j k' f1).1] at hxj
     exact hs.sep i k j k' e1 f1 hij (e2 ho) (f3 hlv) x hx hxj
  wr:=fun i b x hi ho hx=>by
   by_cases him:m≤i∧i < m+new.length
   ·rcases hlook i b hi with ⟨q,rfl,hq,hb2⟩ | ⟨hne,_⟩
    ·rcases hnew q b x hb2 hx with h1 | ⟨i',k',g1,g2,g3,g4⟩
     ·have:=hs.size;exact .inl (by omega)
     ·exact hs.wr i' k' x g2 g3 g4
    ·exact absurd him hne
   ·obtain⟨k,e1,e2,e3,e4⟩:=hbef i b him hi
    rw[hold i (hs.ok i k e1).1] at hx
    exact hs.wr i k x e1 (e2 ho) hx
  org:=fun i b x hi hlv hx=>by
   by_cases him:m≤i∧i < m+new.length
   ·rcases hlook i b hi with ⟨q,rfl,hq,hb2⟩ | ⟨hne,_⟩
    ·rcases hnew q b x hb2 hx with h1 | ⟨i',k',g1,g2,g3,g4⟩
     ·have:=hs.size;exact .inl (by omega)
     ·exact hs.org i' k' x g2 (Blk.live_own g3) g4
    ·exact absurd him hne
   ·obtain⟨k,e1,e2,e3,e4⟩:=hbef i b him hi
    rw[hold i (hs.ok i k e1).1] at hx
    exact hs.org i k x e1 (e3 hlv) hx
  frame:=fun x h1 h2=>by
   have hnw: ¬ xB ρ wr x:=fun⟨id,b1,g1,g2⟩=>by
    obtain⟨p,hp⟩:=List.getElem?_of_mem g1
    obtain⟨k,e7,e8,_⟩:=hwr id b1 (eC hwn hp)
    rcases hs.wr id k x e7 e8 g2 with h3 | h3
    ·omega
    ·exact h2 h3
   rw[hb.block x (Nat.lt_of_lt_of_le h1 hs.size) hnw]
   exact hs.frame x h1 h2
  os:=hb.os.trans hs.os
  tape:=hb.tape.trans hs.tape
  output:=hb.output.trans hs.output
  drawn:=Nat.le_trans hs.drawn hb.drawn
  size:=Nat.le_trans hs.size hb.size
  ag:=hs.ag.trans hag hs.inn
  inn:=fun i hi=> .inl (hs.inn i hi) }
end
def K9 (A:Alg) (L m q:Nat) (σ:List Sc):Blk→Option (List Bool×Blk)
 | .fix o l=>match H3 A L m q σ l with
  | some (p,y)=>some (p, .fix o y)
  | none=>none
 | .vec o k l=>some ([], .vec o k l)
 | .gone=>some ([], .gone)
def BE (A:Alg) (L m q:Nat) (σ:List Sc):List Blk→Option (List Bool×List Blk)
 | []=>some ([],[])
 | b :: r=>match K9 A L m q σ b,BE A L m q σ r with
  | some (o,c),some (p,s)=>some (o++p,c :: s)
  | _,_=>none
def ai8:List Blk→Bool
 | []=>true
 | b :: r=>b.own&&ai8 r
def F5:List Blk→Bool
 | []=>true
 | b :: r=>(match b with
  | .gone=>true
  | .fix o _=>o
  | .vec o _ _=>o)&&F5 r
def wrD:List (Nat×Option Nat)→List Blk→Option bT
 | [],[]=>some []
 |(_,o) :: r,b :: l=>match wrD r l with
  | some h=>match o with
   | some id=>some ((id,b) :: h)
   | none=>some h
  | none=>none
 | _,_=>none
def aR (ds:List GK) (A:Alg) (g:List CV→List Blk→Option LW):bU:=fun m xs h=>
 match mK A h ds xs cn0 with
 | some (args,c)=>match g args c.heap with
  | some r=>match ai8 r.new&&F5 r.wr with
   | true=>match Mq A r.new.length m c.sc.length c.sc r.val,BE A r.new.length m c.sc.length c.sc r.new,BE A r.new.length m c.sc.length c.sc r.wr with
    | some (o1,v),some (o2,nw),some (o3,ws)=>match wrD c.wi ws with
     | some wr=>some ⟨c.ob++(r.ob++(o1++(o2++o3))),v,nw,wr⟩
     | none=>none
    | _,_,_=>none
   | false=>none
  | none=>none
 | none=>none
def jZ (F:Rho→Rho):Blk→Blk→Prop
 | .fix o l, .fix o' l'=>o=o'∧bO l=bO l'∧ ∀ ρ,aI ρ l=aI (F ρ) l'
 | .vec o k l, .vec o' k' l'=>o=o'∧l.length=l'.length∧k.esz=k'.esz∧k.flat l=k'.flat l'∧(l=[]→l'=[])
 | _,_=>False
theorem jZ.own {F:Rho→Rho} {b b':Blk} (h:jZ F b b'):b.own=b'.own:=by
 cases b <;> cases b' <;> simp only[jZ] at h
 ·exact h.1
 ·exact h.1
theorem jZ.ok {F:Rho→Rho} {b b':Blk} (h:jZ F b b') {w:World} {v:Value} {ρ:Rho} (hk:b.ok w v ρ):b'.ok w v (F ρ):=by
 cases b with
 | fix o l=>
  cases b' with
  | fix o' l'=>
   obtain⟨rfl,h2,h3⟩:=h
   obtain⟨b,o',rfl,hb,hr,ht⟩:=hk
   exact⟨b,o',rfl,hb,by rw[← h3 ρ];exact hr,fun e=>by rw[← h2];exact ht e⟩
  | vec=>exact h.elim
  | gone=>exact h.elim
 | gone=>exact h.elim
 | vec o k l=>
  cases b' with
  | fix=>exact h.elim
  | gone=>exact h.elim
  | vec o' k' l'=>
   obtain⟨rfl,h2,h3,h4,h5⟩:=h
   obtain⟨base,cap,rfl,hc,hm⟩:=hk
   refine⟨base,cap,by rw[h2],by omega,?_⟩
   cases base with
   | none=>exact⟨h5 hm.1,hm.2⟩
   | some a=>
    obtain⟨b,o',rfl,hb,hr,ht⟩:=hm
    exact⟨b,o',rfl,hb,by rw[← h4];exact hr,fun e=>by rw[← h3];exact ht e⟩
theorem VB: ∀ {bs:List Blk} {j t:Nat},t∈eH bs j→j≤t
 | [],_,_,h=>by simp[eH] at h
 | b :: r,j,t,h=>by
  unfold eH at h
  split at h
  ·rcases List.mem_cons.1 h with rfl | h
   ·exact Nat.le_refl _
   ·have:=VB h;omega
  ·have:=VB h;omega
theorem UZ: ∀ (bs:List Blk) (j:Nat),(eH bs j).Nodup
 | [],_=>by simp[eH]
 | b :: r,j=>by
  unfold eH
  split
  ·exact List.nodup_cons.2 ⟨fun h=>by have:=VB h;omega,UZ r (j+1)⟩
  ·exact UZ r (j+1)
def Xx (bs wr:List Blk) (t:Nat):Prop:=bs.length≤t∨ ∃ p:Nat,(eH bs 0)[p]? =some t∧wr[p]? =some Blk.gone
theorem Xx.ne {bs wr:List Blk} {t p i:Nat} {b:Blk} (h:Xx bs wr t) (hi:(eH bs 0)[p]? =some i) (hl:i < bs.length) (hb:wr[p]? =some b) (hg:b≠Blk.gone):t≠i:=fun e=>by
 subst e
 rcases h with h | ⟨p',g1,g2⟩
 ·omega
 ·have h1:=(List.getElem?_eq_some_iff.1 hi).1
  have h2:=(List.getElem?_eq_some_iff.1 g1).1
  have e:p=p':=(List.getElem_inj (UZ bs 0)).1 (by rw[(List.getElem?_eq_some_iff.1 hi).2,(List.getElem?_eq_some_iff.1 g1).2]:(eH bs 0)[p]=(eH bs 0)[p'])
  subst e
  rw[g2] at hb
  exact hg (Option.some.inj hb).symm
def PB (F:Nat→Prop) (q:Nat) (τ:List Sc) (h:bT) (x:Sc) (b:Blk):Prop:=
 (∃ t b',F t∧(x= .hs t∨x= .hp t 0)∧aN h t=some b'∧jZ (nZ q τ) b' b)∨(x= .nils∧ ∃ o k,b= .vec o k [])∨
  (∃ (t:Nat) (hi:Int) (o:Bool) (k:RK) (l:List k.ty),F t∧x= .hw t k.esz 0 hi∧aN h t=some (.vec o k l)∧0≤hi∧hi≤(l.length:Int)∧jZ (nZ q τ) (.vec o k (l.take hi.toNat)) b)
structure bW (bs:List Blk) (r:LW) (v:XV) (h:bT):Prop where
 ex: ∃ τ:List Sc,τ.length=r.new.length∧(∀ (i j:Nat) (x y:Sc) (t:Nat),τ[i]? =some x→τ[j]? =some y→i≠j→x.base=some t→y.base≠some t)∧
  (∀ ρ,v.den ρ=r.val.den (nZ bs.length τ ρ))∧(∀ (i:Nat) (x:Sc) (b:Blk),τ[i]? =some x→r.new[i]? =some b→PB (Xx bs r.wr) bs.length τ h x b)∧
  ∀ (p t:Nat) (b:Blk),(eH bs 0)[p]? =some t→r.wr[p]? =some b→b= .gone∨ ∃ b',aN h t=some b'∧jZ (nZ bs.length τ) b' b
def rU (c:Cn) (ρ:Rho):jH:=⟨fun y=> ∃ (i:Nat) (x:Sc) (b:Blk),c.sc[i]? =some x∧c.heap[i]? =some b∧b.own=true∧bK (x.den ρ)=some y,fun i=>i < c.sc.length,fun i=>match c.sc[i]? with
 | some x=>x.den ρ
 | none=> .pointer none,fun y=> ∃ (i:Nat) (x:Sc),c.sc[i]? =some x∧bK (x.den ρ)=some y⟩
section
variable {P:Program} {T:Nat→Option TI} {C:Nat→Option bU}
theorem HS.enterC {h:bT} {w:World} {ρ:Rho} {n:Ids} {c:Cn} (hc:nQ w ρ h n c):HS w (rU c ρ) (rU c ρ).rho (gR c.heap 0) (fun i=>i < c.sc.length) w:=by
 have hx: ∀ i b,aN (gR c.heap 0) i=some b→ ∃ x,c.sc[i]? =some x∧c.heap[i]? =some b:=fun i b h=>by
  rw[jQ,if_pos (Nat.zero_le _),Nat.sub_zero] at h
  obtain⟨h1,_⟩:=List.getElem?_eq_some_iff.1 h
  rw[hc.len] at h1
  exact⟨c.sc[i],List.getElem?_eq_getElem h1,h⟩
 have hr: ∀ i x,c.sc[i]? =some x→(rU c ρ).rho i=x.den ρ:=fun i x h=>by simp only[rU,h]
 have hf:y5 ρ c (rU c ρ).rho:=hr
 exact {
  one:=fun i=>by
   cases h:c.sc[i]? with
   | none=>simp only[rU,h];rfl
   | some x=>
    rw[hr i x h]
    obtain⟨h1,_⟩:=List.getElem?_eq_some_iff.1 h
    rw[← hc.len] at h1
    exact(hc.blk i x _ h (List.getElem?_eq_getElem h1)).2.2.2
  ok:=fun i b h=>by
   obtain⟨x,h1,h2⟩:=hx i b h
   obtain⟨g1,g2,g3,g4⟩:=hc.blk i x b h1 h2
   rw[hr i x h1]
   exact⟨(List.getElem?_eq_some_iff.1 h1).1,g2 _ hf,g3 _⟩
  sep:=fun i b j c' hi hj hij ho _ y hy=>by
   obtain⟨x,h1,h2⟩:=hx i b hi
   obtain⟨x',h3,h4⟩:=hx j c' hj
   rw[hr i x h1] at hy
   rw[hr j x' h3]
   exact hc.sep i x b j x' h1 h2 h3 hij ho y hy
  wr:=fun i b y h ho hy=>by
   obtain⟨x,h1,h2⟩:=hx i b h
   rw[hr i x h1] at hy
   exact .inr ⟨i,x,b,h1,h2,ho,hy⟩
  org:=fun i b y h ho hy=>by
   obtain⟨x,h1,h2⟩:=hx i b h
   rw[hr i x h1] at hy
   exact .inr (.inr ⟨i,x,h1,hy⟩)
  frame:=fun _ _ _=>rfl
  os:=rfl
  tape:=rfl
  output:=rfl
  drawn:=Nat.le_refl _
  size:=Nat.le_refl _
  ag:=bZ.refl _ _
  inn:=fun _ h=>h }
theorem gN: ∀ {l:List Blk},ai8 l=true→ ∀ b,b∈l→b.own=true
 | [],_,b,hb=>by simp at hb
 | a :: r,h,b,hb=>by
  simp only[ai8,Bool.and_eq_true] at h
  simp only[List.mem_cons] at hb
  rcases hb with rfl | hb
  ·exact h.1
  ·exact gN h.2 b hb
theorem wD: ∀ {l:List Blk},F5 l=true→ ∀ b,b∈l→b= .gone∨b.own=true
 | [],_,b,hb=>by simp at hb
 | a :: r,h,b,hb=>by
  simp only[F5,Bool.and_eq_true] at h
  simp only[List.mem_cons] at hb
  rcases hb with rfl | hb
  ·cases b with
   | gone=>exact .inl rfl
   | fix=>exact .inr h.1
   | vec=>exact .inr h.1
  ·exact wD h.2 b hb
theorem E1: ∀ {wi:List (Nat×Option Nat)} {ws:List Blk} {wr:bT},wrD wi ws=some wr→wr.map (·.1)=wi.filterMap (·.2)∧ws.length=wi.length∧
  (∀ id b,(id,b)∈wr→ ∃ (p:Nat) (q:Nat),wi[p]? =some (q,some id)∧ws[p]? =some b)∧ ∀ (p q id:Nat) (b:Blk),wi[p]? =some (q,some id)→ws[p]? =some b→(id,b)∈wr
 | [],[],wr,e=>by
  simp only[wrD,Option.some.injEq] at e;subst e
  exact⟨rfl,rfl,fun id b h=>by simp at h,fun p q id b h=>by simp at h⟩
 | [],_ :: _,_,e=>by simp[wrD] at e
 | _ :: _,[],_,e=>by simp[wrD] at e
 |(q0,o) :: r,b0 :: l,wr,e=>by
  simp only[wrD] at e
  split at e
  ·rename_i hh hr
   obtain⟨g1,g2,g3,g4⟩:=E1 hr
   cases o with
   | none=>
    simp only[Option.some.injEq] at e
    subst e
    refine⟨by simp[g1],by simp[g2],fun id b hm=>?_,fun p q id b h1 h2=>?_⟩
    ·obtain⟨p,q,k1,k2⟩:=g3 id b hm
     exact⟨p+1,q,by simpa using k1,by simpa using k2⟩
    ·cases p with
     | zero=>simp at h1
     | succ p=>exact g4 p q id b (by simpa using h1) (by simpa using h2)
   | some id0=>
    simp only[Option.some.injEq] at e
    subst e
    refine⟨by simp[g1],by simp[g2],fun id b hm=>?_,fun p q id b h1 h2=>?_⟩
    ·simp only[List.mem_cons,Prod.mk.injEq] at hm
     rcases hm with ⟨rfl,rfl⟩ | hm
     ·exact⟨0,q0,rfl,rfl⟩
     ·obtain⟨p,q,k1,k2⟩:=g3 id b hm
      exact⟨p+1,q,by simpa using k1,by simpa using k2⟩
    ·cases p with
     | zero=>
      simp at h1 h2
      obtain⟨-,rfl⟩:=h1
      subst h2
      exact List.mem_cons_self ..
     | succ p=>exact List.mem_cons_of_mem _ (g4 p q id b (by simpa using h1) (by simpa using h2))
  ·cases e
theorem tC {ρ ρ2 ρ3:Rho} {n:Ids} {L m q:Nat} {σ:List Sc} (hq:σ.length=q) (h1: ∀ j x,σ[j]? =some x→ρ2 j=x.den ρ) (h2: ∀ j,q≤j→j < q+L→ρ3 (m+(j - q))=ρ2 j) (hag:bZ n ρ ρ3)
  (hsc: ∀ x,x∈σ→anI n ρ x) {b b':Blk} {o:List Bool} (e:K9 aA L m q σ b=some (o,b')) (ho: ∀ x,x∈o→x=true) :
  b'.own=b.own∧(∀ {w:World} {v:Value},b.ok w v ρ2→b'.ok w v ρ3)∧b'.stb (kZ n m L) ρ3∧(b'= .gone↔b= .gone):=by
 cases b with
 | fix ow l=>
  simp only[K9] at e
  split at e
  ·rename_i p y hy
   simp only[Option.some.injEq,Prod.mk.injEq] at e
   obtain⟨rfl,rfl⟩:=e
   obtain⟨g1,g2⟩:=lF (f:=fun i=>i) hq h1 h2 hag hsc hy ho
   have hid:l.map (At.ren fun i=>i)=l:=by
    have:(fun a=>At.ren (fun i=>i) a)=id:=funext At.ren_id
    rw[show At.ren (fun i=>i)=id from this,List.map_id]
   rw[hid] at g1
   have hsz:bO y=bO l:=by
    have:=congrArg List.length g1
    rwa [flats_length,flats_length] at this
   refine⟨rfl,fun {w v} hk=>?_,g2,by simp⟩
   obtain⟨b,o',e1,e2,e3,e4⟩:=hk
   exact⟨b,o',e1,e2,by rw[g1];exact e3,fun h=>by rw[hsz];exact e4 h⟩
  ·cases e
 | vec ow k l=>
  simp only[K9,Option.some.injEq,Prod.mk.injEq] at e
  obtain⟨rfl,rfl⟩:=e
  exact⟨rfl,fun {w v} hk=>hk,trivial,by simp⟩
 | gone=>
  simp only[K9,Option.some.injEq,Prod.mk.injEq] at e
  obtain⟨rfl,rfl⟩:=e
  exact⟨rfl,fun {w v} hk=>hk,trivial,by simp⟩
theorem rF {A:Alg} {L m q:Nat} {σ:List Sc} : ∀ {l l':List Blk} {o:List Bool},BE A L m q σ l=some (o,l')→l'.length=l.length∧
  ∀ (i:Nat) (b':Blk),l'[i]? =some b'→ ∃ b p,l[i]? =some b∧K9 A L m q σ b=some (p,b')∧ ∀ x,x∈p→x∈o
 | [],l',o,e=>by
  simp only[BE,Option.some.injEq,Prod.mk.injEq] at e
  obtain⟨rfl,rfl⟩:=e
  exact⟨rfl,fun i b h=>by simp at h⟩
 | b :: r,l',o,e=>by
  simp only[BE] at e
  split at e
  ·rename_i o1 c p s h1 h2
   simp only[Option.some.injEq,Prod.mk.injEq] at e
   obtain⟨rfl,rfl⟩:=e
   obtain⟨g1,g2⟩:=rF h2
   refine⟨by simp[g1],fun i b' h=>?_⟩
   cases i with
   | zero=>simp at h;subst h;exact⟨b,o1,rfl,h1,fun x hx=>by simp[hx]⟩
   | succ i=>
    obtain⟨b2,p2,k1,k2,k3⟩:=g2 i b' (by simpa using h)
    exact⟨b2,p2,by simpa using k1,k2,fun x hx=>by simp[k3 x hx]⟩
  ·cases e
theorem aW (hT:TOK P T) (hC:COK P C) (hm:P.follows .mixedOrders=true) {f:Nat} {fn:Func}
  {ds:List GK} {g:List CV→List Blk→Option LW} {un:Md}
  (hrun: ∀ (w:World) (Wr:jH) (args:List CV) (bs:List Blk) (r:LW),g args bs=some r→(∀ b,b∈r.ob→b=true)→(∀ i,Wr.ids i→i < bs.length)→
   ∀ (A:Alg) (L:Code→St→(Exit→St→Prop)→Prop) (k:XV→bT→Prop),A=aA→(∀ c s k,gI P (cx0 fn.ntmps T C) w Wr c s k→L c s k)→(∀ v h,bW bs r v h→k v h)→
    G5 ⟨0,A,T,C,un,L⟩ fn args (gR bs 0) bs.length k) (hf:P.funcs[f]? =some fn:=by kernel_rfl) (hn:fn.body.isNone=false:=by kernel_rfl) (hnm:(fn.name == "runtime.NumGoroutine")=false:=by kernel_rfl) (hN:ds.length≤fn.ntmps:=by decide +kernel):aJ P f (aR ds aA g) where
 enters args w:=by
  unfold callFunc
  simp only[Sem.run_bind,run_program,Result.andThen_ok,hf]
  rw[if_neg (by rw[hnm];simp),if_neg (by rw[hn];simp)]
  rfl
 calls n m args h r hlt hr hob w0 Wr ρ w hs hargs:=by
  unfold aR at hr
  split at hr
  ·rename_i cargs c hcan
   split at hr
   ·rename_i rr hg
    split at hr
    ·rename_i hnews
     simp only[Bool.and_eq_true] at hnews
     obtain⟨hnew,hnwr⟩:=hnews
     split at hr
     ·rename_i o1 y o2 nw o3 ws hy hnw hws
      split at hr
      ·rename_i wr hwr
       simp only[Option.some.injEq] at hr
       subst hr
       have ho1: ∀ b,b∈c.ob→b=true:=fun b hb=>hob b (by simp[hb])
       have ho2: ∀ b,b∈rr.ob→b=true:=fun b hb=>hob b (by simp[hb])
       have ho3: ∀ b,b∈o1→b=true:=fun b hb=>hob b (by simp[hb])
       have ho4: ∀ b,b∈o2→b=true:=fun b hb=>hob b (by simp[hb])
       have ho5: ∀ b,b∈o3→b=true:=fun b hb=>hob b (by simp[hb])
       obtain⟨hlen, -,hsnd⟩:=iB rfl hs hcan
       obtain⟨hc, -,hden,hstb⟩:=hsnd ho1 nQ.zero
       have hentry:=HS.enterC hc
       have hr0:y5 ρ c (rU c ρ).rho:=fun i x h=>by simp only[rU,h]
       have hcall:=uE (un:=un) hT hC hm hf hentry (fun v hv=>hstb v hv _) (fun i hi=>by rw[hc.len];exact hi) (by rw[hlen];exact hN) (R:=bW c.heap rr)
        (hrun w (rU c ρ) cargs c.heap rr hg ho2 (fun i hi=>by rw[hc.len];exact hi))
       rw[hden _ hr0] at hcall
       refine hcall.mono fun e w' ⟨v,ρ2,n2,h2,hgood,he,hst,hs2⟩=>?_
       obtain⟨τ,t1,t2,t3,t4,t5⟩:=hgood.ex
       have hq:c.heap.length=c.sc.length:=hc.len
       rw[hq] at t3 t4 t5
       obtain⟨w1,w2,w3,w4⟩:=E1 hwr
       have hwn:(wr.map (·.1)).Nodup:=by rw[w1];exact hc.nod
       obtain⟨n1,n2'⟩:=rF hnw
       obtain⟨s1,s2⟩:=rF hws
       have hWr: ∀ y,(rU c ρ).wr y→ ∃ (p i id:Nat) (b0:Blk) (x:Sc),c.wi[p]? =some (i,some id)∧ws[p]? =some b0∧(id,b0)∈wr∧c.sc[i]? =some x∧bK (x.den ρ)=some y∧(∃ k,aN h id=some k∧k.own=true)∧x.den ρ=ρ id:=fun y ⟨i,x,b,h1,h2,h3,h4⟩=>by
        obtain⟨o,g1,g2⟩:=hc.own i x b h1 h2 h3
        cases o with
        | none=>rw[show bK (x.den ρ)=none from g2] at h4;cases h4
        | some id=>
         obtain⟨g3,k,g4,g5,g6⟩:=g2
         obtain⟨p,hp⟩:=List.getElem?_of_mem g1
         have hpl:=(List.getElem?_eq_some_iff.1 hp).1
         have hb0: ∃ b0,ws[p]? =some b0:=⟨_,List.getElem?_eq_getElem (by rw[w2];exact hpl)⟩
         obtain⟨b0,hb0⟩:=hb0
         exact⟨p,i,id,b0,x,hp,hb0,w4 p i id b0 hp hb0,h1,h4,⟨k,g4,g5⟩,g6⟩
       have hbut:But (xB ρ wr) w w':=⟨hs2.os,hs2.tape,hs2.output,hs2.drawn,hs2.size,fun x hx hnw=>hs2.frame x hx fun hw=>by
        obtain⟨p,i,id,b0,x',g1,g2,g3,g4,g5,g6,g7⟩:=hWr x hw
        exact hnw ⟨id,b0,g3,by rw[← g7];exact g5⟩⟩
       let ρx:Rho:=nZ c.sc.length τ ρ2
       let ρ3:Rho:=fun i=>if m≤i∧i < m+rr.new.length then ρx (c.sc.length+(i - m)) else ρ i
       have hag:bZ n ρ ρ3:=fun i hi=>by have:=hlt i hi;show ite _ _ _=_;rw[if_neg (by omega)]
       have hx: ∀ j,j < c.sc.length→ρx j=ρ2 j:=fun j hj=>by show ite _ _ _=_;rw[if_pos hj]
       have hσ: ∀ j x,c.sc[j]? =some x→ρx j=x.den ρ:=fun j x hxj=>by
        have hj:=(List.getElem?_eq_some_iff.1 hxj).1
        rw[hx j hj,hs2.ag j hj]
        exact hr0 j x hxj
       have hνx: ∀ j,c.sc.length≤j→j < c.sc.length+rr.new.length→ρ3 (m+(j - c.sc.length))=ρx j:=fun j h1 h2=>by
        show ite _ _ _=_
        rw[if_pos ⟨by omega,by omega⟩,show c.sc.length+(m+(j - c.sc.length) - m)=j from by omega]
       have hnewr: ∀ q x,τ[q]? =some x→q < rr.new.length→ρ3 (m+q)=x.den ρ2:=fun q x hq hql=>by
        show ite _ _ _=_
        rw[if_pos ⟨by omega,by omega⟩,show m+q - m=q from by omega]
        exact mP hq
       obtain⟨y1,y2⟩:=oL (ρ2:=ρx) (ρ3:=ρ3) (f:=fun i=>i) (n:=n) (q:=c.sc.length) rfl hσ hνx hag hc.scs hy ho3
       rw[XV.ren_id] at y1
       have hτ: ∀ (q:Nat) (b:Blk),rr.new[q]? =some b→ ∃ x,τ[q]? =some x∧ρ3 (m+q)=x.den ρ2∧PB (Xx c.heap rr.wr) c.sc.length τ h2 x b:=fun q b hb=>by
        have h1:=(List.getElem?_eq_some_iff.1 hb).1
        have h1':=h1
        rw[← t1] at h1
        have e:=List.getElem?_eq_getElem h1
        exact⟨τ[q],e,hnewr q _ e h1',t4 q _ b e hb⟩
       have hsrc: ∀ (x:Sc) (b:Blk),b.own=true→PB (Xx c.heap rr.wr) c.sc.length τ h2 x b→b.ok w' (x.den ρ2) ρx∧(x.den ρ2).oneCell'=true∧
         ∀ y,bK (x.den ρ2)=some y→ ∃ t b',Xx c.heap rr.wr t∧x.base=some t∧aN h2 t=some b'∧b'.own=true∧bK (ρ2 t)=some y:=fun x b hown hsx=>by
        rcases hsx with ⟨t,b',ht,hxt,hlt,hle⟩ | ⟨rfl,o,k,rfl⟩ | ⟨t,hi,o,k,l,ht,rfl,hlt,hi0,hi1,hle⟩
        ·have hok:=hle.ok (hs2.ok t b' hlt).2.1
         have hd:x.den ρ2=ρ2 t:=by
          rcases hxt with rfl | rfl
          ·rfl
          ·exact fU _
         rw[hd]
         refine⟨hok,hs2.one t,fun y hy=>⟨t,b',ht,?_,hlt,by rw[hle.own];exact hown,hy⟩⟩
         rcases hxt with rfl | rfl <;> rfl
        ·exact⟨⟨none,0,rfl,Nat.le_refl _,rfl,rfl⟩,rfl,fun y hy=>by cases hy⟩
        ·obtain⟨base,cap,hv,hcap,hbase⟩:=(hs2.ok t _ hlt).2.1
         have hlen:(l.take hi.toNat).length=hi.toNat:=by rw[List.length_take];omega
         have ho:o=true:=by have:=hle.own;rw[hown] at this;exact this
         subst ho
         cases base with
         | none=>
          obtain⟨rfl,rfl⟩:=hbase
          have h0:hi.toNat=0:=by simp only[List.length_nil] at hi1;omega
          have hd:(Sc.hw t k.esz 0 hi).den ρ2= .slice none 0 0:=by simp only[Sc.den,hv,h0];rfl
          rw[hd]
          exact⟨hle.ok (show Blk.ok w' (.slice none 0 0) ρ2 (.vec true k (([]:List k.ty).take hi.toNat)) from⟨none,0,by rw[List.take_nil];rfl,by rw[List.take_nil];exact Nat.le_refl _,by rw[List.take_nil],rfl⟩),rfl,fun y hy=>by cases hy⟩
         | some a=>
          obtain⟨b0,o0,rfl,g1,g2,g3⟩:=hbase
          have hd:(Sc.hw t k.esz 0 hi).den ρ2= .slice (some ⟨b0,o0,none⟩) (l.take hi.toNat).length cap:=by
           simp only[Sc.den,hv,hlen]
           rw[show(0:Int).toNat=0 from rfl,Nat.zero_mul,Option.map_some,Addr.add_mid,Nat.add_zero,Nat.sub_zero,Nat.sub_zero]
           split <;> rfl
          rw[hd]
          refine⟨hle.ok (show Blk.ok w' (.slice (some ⟨b0,o0,none⟩) (l.take hi.toNat).length cap) ρ2 (.vec true k (l.take hi.toNat)) from⟨some ⟨b0,o0,none⟩,cap,rfl,by rw[hlen];omega,b0,o0,rfl,g1,fun j v hj=>g2 j v ?_,g3⟩),rfl,fun y hy=>⟨t,_,ht,rfl,hlt,rfl,by rw[hv];exact hy⟩⟩
          rw[RK.flat_take',List.getElem?_take] at hj
          split at hj
          ·exact hj
          ·cases hj
       have hpos: ∀ (q:Nat) (b:Blk) (x:Nat),rr.new[q]? =some b→bK (ρ3 (m+q))=some x→w.heap.size≤x∨ ∃ i k,aN wr i=some .gone∧aN h i=some k∧k.own=true∧bK (ρ i)=some x:=fun q b x hb hxb=>by
        obtain⟨xs,g1,g2,g3⟩:=hτ q b hb
        rw[g2] at hxb
        obtain⟨_,_,h3⟩:=hsrc xs b (gN hnew b (List.mem_of_getElem? hb)) g3
        obtain⟨t,b',e1,e2,e3,e4,e5⟩:=h3 x hxb
        rcases hs2.wr t b' x e3 e4 e5 with h | h
        ·exact .inl h
        ·obtain⟨p,i,id,b0,x',k1,k2,k3,k4,k5,⟨k,k6,k7⟩,k8⟩:=hWr x h
         obtain⟨br,po,r1,r2,r3⟩:=s2 p b0 k2
         have hix:(eH c.heap 0)[p]? =some i:=by rw[hc.idx];simp[k1]
         have hil:=(List.getElem?_eq_some_iff.1 k4).1
         rcases t5 p i br hix r1 with rfl | ⟨b3,v1,v2⟩
         ·simp only[K9,Option.some.injEq,Prod.mk.injEq] at r2
          obtain⟨-,rfl⟩:=r2
          obtain⟨pp,hpp⟩:=List.getElem?_of_mem k3
          exact .inr ⟨id,k,eC hwn hpp,k6,k7,by rw[← k8];exact k5⟩
         ·exfalso
          rcases wD hnwr br (List.mem_of_getElem? r1) with rfl | hbo
          ·cases b3 <;> exact v2.elim
          ·refine hs2.sep t b' i b3 e3 v1 (e1.ne hix (by rw[hq];exact hil) r1 fun e=>by rw[e] at v2;cases b3 <;> exact v2.elim) e4 (Blk.live_own (by rw[v2.own];exact hbo)) x e5 ?_
           rw[show ρ2 i=x'.den ρ from by rw[hs2.ag i hil];exact hr0 i x' k4]
           exact k5
       have hlen2:nw.length=rr.new.length:=n1
       have hnwb: ∀ (q:Nat) (b:Blk),nw[q]? =some b→ ∃ b0,rr.new[q]? =some b0∧b.own=b0.own∧(∀ {w:World} {v:Value},b0.ok w v ρx→b.ok w v ρ3)∧b.stb (kZ n m rr.new.length) ρ3:=fun q b hb=>by
        obtain⟨b0,p,r1,r2,r3⟩:=n2' q b hb
        obtain⟨e1,e2,e3,_⟩:=tC (ρ2:=ρx) (ρ3:=ρ3) (n:=n) (q:=c.sc.length) rfl hσ hνx hag hc.scs r2 (fun z hz=>ho4 z (r3 z hz))
        exact⟨b0,r1,e1,e2,e3⟩
       refine⟨v.den ρ2,he,ρ3,hag,by rw[t3,y1],by rw[hlen2];exact y2,?_,hbut,fun i x g1 g2 hx=>?_⟩
       ·refine HS.afterN (ρ3:=ρ3) hs hlt hwn hbut hag (fun i=>?_) (fun i b hb=>?_) (fun q b hb=>?_) (fun q b x hb hx=>?_) (fun q q' b b' hb hb' hne x hx hx2=>?_)
        ·by_cases hi:m≤i∧i < m+rr.new.length
         ·have hb: ∃ b,rr.new[i - m]? =some b:=⟨_,List.getElem?_eq_getElem (by omega)⟩
          obtain⟨b,hb⟩:=hb
          obtain⟨xs,g1,g2,g3⟩:=hτ _ b hb
          rw[show m+(i - m)=i from by omega] at g2
          rw[g2]
          exact(hsrc xs b (gN hnew b (List.mem_of_getElem? hb)) g3).2.1
         ·show(ite _ _ _:Value).oneCell'=true
          rw[if_neg hi]
          exact hs.one _
        ·obtain⟨pp,hpp⟩:=jM hb
         obtain⟨p,i0,k1,k2⟩:=w3 i b (List.mem_of_getElem? hpp)
         obtain⟨x,bc,c1,c2,c3,c4⟩:=hc.wis i0 _ (List.mem_of_getElem? k1)
         obtain⟨c5,k,c6,c7,c8⟩:=c4
         obtain⟨br,po,r1,r2,r3⟩:=s2 p b k2
         obtain⟨e1,e2,e3,e4⟩:=tC (ρ2:=ρx) (ρ3:=ρ3) (n:=n) (q:=c.sc.length) rfl hσ hνx hag hc.scs r2 (fun z hz=>ho5 z (r3 z hz))
         refine⟨k,c6,c7,?_,by rw[hlen2];exact e3⟩
         have hix:(eH c.heap 0)[p]? =some i0:=by rw[hc.idx];simp[k1]
         have hil:=(List.getElem?_eq_some_iff.1 c1).1
         rcases t5 p i0 br hix r1 with rfl | ⟨b3,v1,v2⟩
         ·rw[e4.2 rfl]
          exact fun x hx=>Nat.lt_of_lt_of_le (Blk.block (hs.ok i k c6).2.1 hx) hbut.size
         ·have h3:=v2.ok (hs2.ok i0 b3 v1).2.1
          rw[show ρ2 i0=x.den ρ from by rw[hs2.ag i0 hil];exact hr0 i0 x c1,c8] at h3
          exact e2 h3
        ·obtain⟨b0,k1,k2,k3,k4⟩:=hnwb q b hb
         obtain⟨xs,g1,g2,g3⟩:=hτ q b0 k1
         rw[g2,hlen2]
         exact⟨k3 (hsrc xs b0 (gN hnew b0 (List.mem_of_getElem? k1)) g3).1,k4⟩
        ·obtain⟨b0,k1,_⟩:=hnwb q b hb
         exact hpos q b0 x k1 hx
        ·obtain⟨b0,k1,_⟩:=hnwb q b hb
         obtain⟨b0',k1',_⟩:=hnwb q' b' hb'
         obtain⟨xs,g1,g2,g3⟩:=hτ q b0 k1
         obtain⟨xs',g1',g2',g3'⟩:=hτ q' b0' k1'
         rw[g2] at hx
         rw[g2'] at hx2
         obtain⟨t,u,e1,e2,e3,e4,e5⟩:=(hsrc xs b0 (gN hnew b0 (List.mem_of_getElem? k1)) g3).2.2 x hx
         obtain⟨t',u',f1,f2,f3,f4,f5⟩:=(hsrc xs' b0' (gN hnew b0' (List.mem_of_getElem? k1')) g3').2.2 x hx2
         have hne2:t≠t':=fun e=>t2 q q' xs xs' t g1 g1' hne e2 (by rw[e,f2])
         exact hs2.sep t u t' u' e3 f3 hne2 e4 (Blk.live_own f4) x e5 f5
       ·have hb: ∃ b,rr.new[i - m]? =some b:=⟨_,List.getElem?_eq_getElem (by simp only[hlen2] at g2;omega)⟩
        obtain⟨b,hb⟩:=hb
        rcases hpos (i - m) b x hb (by rw[show m+(i - m)=i from by omega];exact hx) with h3 | ⟨i',kk,h3,h4,h5,h6⟩
        ·exact .inl h3
        ·obtain⟨q,hq⟩:=jM h3
         exact .inr (.inl ⟨i',_,List.mem_of_getElem? hq,h6⟩)
      ·cases hr
     ·cases hr
    ·cases hr
   ·cases hr
  ·cases hr
end
end Go.Eng
