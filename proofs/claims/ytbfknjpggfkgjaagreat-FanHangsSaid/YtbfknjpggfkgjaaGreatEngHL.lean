
import Derived.Test.YtbfknjpggfkgjaaGreatEngAG
import Derived.Deep.Upon
import Derived.Deep.AppendSrc
import Derived.Laws.MakeOwn
import Derived.Laws.BytesString
set_option linter.all false
set_option exponentiation.threshold 3000
namespace Go.Eng
structure But (S:Nat→Prop) (w w':World):Prop where
 os:w'.os=w.os
 tape:w'.tape=w.tape
 output:w'.output=w.output
 drawn:w.drawn≤w'.drawn
 size:w.heap.size≤w'.heap.size
 block: ∀ x,x < w.heap.size→ ¬ S x→w'.heap[x]? =w.heap[x]?
theorem But.below {S:Nat→Prop} {w w':World} (h:But S w w') (hS: ∀ x, ¬ S x):Low w.heap.size w w':=⟨h.os,h.tape,h.output,h.size,fun x hx=>h.block x hx (hS x),h.drawn⟩
theorem But.of {S:Nat→Prop} {w w':World} (h:Low w.heap.size w w'):But S w w':=⟨h.os,h.tape,h.output,h.drawn,h.size,fun x hx _=>h.block x hx⟩
theorem But.mono {S T:Nat→Prop} {w w':World} (h:But S w w') (hS: ∀ x,S x→T x):But T w w':=⟨h.os,h.tape,h.output,h.drawn,h.size,fun x hx hn=>h.block x hx fun hs=>hn (hS x hs)⟩
def xB (ρ:Rho) (wr:bT):Nat→Prop:=fun x=> ∃ i b,(i,b)∈wr∧bK (ρ i)=some x
theorem HC {ρ:Rho} (x:Nat): ¬ xB ρ [] x:=fun⟨_,_,h,_⟩=>by simp at h
theorem Blk.live_own {b:Blk} (h:b.own=true):b.live=true:=by cases b <;> first | rfl | cases h
def Did (w0:World) (Wr:jH) (ρ:Rho) (h:bT) (n:Ids) (m:Nat) (w:World) (r:FR) (v:Value) (w':World):Prop:=
 ∃ ρ',bZ n ρ ρ'∧v=r.val.den ρ'∧nT (kZ n m r.new.length) ρ' r.val∧HS w0 Wr ρ' (rT (oS h r.wr) m r.new) (kZ n m r.new.length) w'∧
  But (xB ρ r.wr) w w'∧(∀ i x,m≤i→i < m+r.new.length→bK (ρ' i)=some x→w.heap.size≤x∨xB ρ r.wr x∨
   ∃ q b k c,i=m+q∧r.new[q]? =some b∧b.own=false∧aN h k=some c∧c.own=false∧c.live=true∧bK (ρ k)=some x)
section
variable {P:Program} {K:Cx} {w0:World} {Wr:jH} {ρ:Rho} {h:bT} {n:Ids} {m:Nat} {w:World}
def upd (ρ:Rho) (n:Nat) (v:Value):Rho:=fun i=>if i=n then v else ρ i
theorem fF (ρ:Rho) (hm: ∀ i,n i→i < m) (v:Value):bZ n ρ (upd ρ m v):=fun i hi=>by have:=hm i hi;unfold upd;rw[if_neg (by omega)]
theorem dE (ρ:Rho) (n:Nat) (v:Value):upd ρ n v n=v:=by simp[upd]
theorem mG {k i:Nat} (h:n i):kZ n m k i:= .inl h
theorem HS.below (hs:HS w0 Wr ρ h n w) {w':World} (hb:Low w.heap.size w w'):HS w0 Wr ρ h n w' where
 one:=hs.one
 ok id b hl:=by
  obtain⟨h1,h2,h3⟩:=hs.ok id b hl
  exact⟨h1,Blk.ok_of_block hb.size (fun x hx=>hb.block x (Blk.block h2 hx)) h2,h3⟩
 sep:=hs.sep
 wr:=hs.wr
 org:=hs.org
 frame x hx hn:=(hb.block x (by have:=hs.size;omega)).trans (hs.frame x hx hn)
 os:=hb.os.trans hs.os
 tape:=hb.tape.trans hs.tape
 output:=hb.output.trans hs.output
 drawn:=Nat.le_trans hs.drawn hb.drawn
 size:=by have:=hs.size;have:=hb.size;omega
 ag:=hs.ag
 inn:=hs.inn
theorem HS.newG (hs:HS w0 Wr ρ h n w) (hm: ∀ i,n i→i < m) {v:Value} {k:Blk} (hv:v.oneCell'=true) (hk:k.ok w v (upd ρ m v)) (hstb:k.stb (kZ n m 1) (upd ρ m v))
  (hnew: ∀ x,bK v=some x→(∀ j c,aN h j=some c→c.live=true→bK (ρ j)≠some x)∧(w0.heap.size≤x∨Wr.wr x)):HS w0 Wr (upd ρ m v) ((m,k) :: h) (kZ n m 1) w where
 one i:=by unfold upd;split;exact hv;exact hs.one i
 ok id b hl:=by
  simp only[aN] at hl
  split at hl
  ·rename_i hid
   simp only[beq_iff_eq] at hid
   simp only[Option.some.injEq] at hl
   subst hl hid
   rw[dE]
   exact⟨.inr (by omega),hk,hstb⟩
  ·rename_i hid
   simp only[beq_iff_eq] at hid
   obtain⟨h1,h2,h3⟩:=hs.ok id b hl
   have e:upd ρ m v id=ρ id:=by unfold upd;rw[if_neg (fun e=>hid e.symm)]
   rw[e]
   exact⟨.inl h1,Blk.ok_move h3 (fF ρ hm v) h2,Blk.stb_move h3 (fF ρ hm v) fun _=>mG⟩
 sep i b j c hi hj hij hown hlive x hx:=by
  simp only[aN] at hi hj
  have ne: ∀ {id:Nat}, ¬ (m == id)=true→upd ρ m v id=ρ id:=fun hid=>by
   unfold upd;rw[if_neg (fun e=>hid (by simp[e]))]
  split at hi
  ·rename_i hni
   simp only[beq_iff_eq] at hni
   subst hni
   rw[dE] at hx
   split at hj
   ·rename_i hnj;simp only[beq_iff_eq] at hnj;exact absurd hnj hij
   ·rename_i hnj
    rw[ne hnj]
    exact(hnew x hx).1 j c hj hlive
  ·rename_i hni
   rw[ne hni] at hx
   split at hj
   ·rename_i hnj
    simp only[beq_iff_eq] at hnj
    subst hnj
    rw[dE]
    intro hxj
    exact(hnew x hxj).1 i b hi (Blk.live_own hown) hx
   ·rename_i hnj
    rw[ne hnj]
    exact hs.sep i b j c hi hj hij hown hlive x hx
 wr i b x hi hown hx:=by
  simp only[aN] at hi
  split at hi
  ·rename_i hni
   simp only[beq_iff_eq] at hni
   subst hni
   rw[dE] at hx
   exact(hnew x hx).2
  ·rename_i hni
   have e:upd ρ m v i=ρ i:=by unfold upd;rw[if_neg (fun e=>hni (by simp[e]))]
   rw[e] at hx
   exact hs.wr i b x hi hown hx
 org i b x hi hlive hx:=by
  simp only[aN] at hi
  split at hi
  ·rename_i hni
   simp only[beq_iff_eq] at hni
   subst hni
   rw[dE] at hx
   rcases(hnew x hx).2 with h | h
   ·exact .inl h
   ·exact .inr (.inl h)
  ·rename_i hni
   have e:upd ρ m v i=ρ i:=by unfold upd;rw[if_neg (fun e=>hni (by simp[e]))]
   rw[e] at hx
   exact hs.org i b x hi hlive hx
 frame:=hs.frame
 os:=hs.os
 tape:=hs.tape
 output:=hs.output
 drawn:=hs.drawn
 size:=hs.size
 ag:=hs.ag.trans (fF ρ hm v) hs.inn
 inn:=fun i hi=> .inl (hs.inn i hi)
theorem HS.new (hs:HS w0 Wr ρ h n w) (hm: ∀ i,n i→i < m) {w':World} (hb:Low w.heap.size w w') {v:Value} {k:Blk} (hv:v.oneCell'=true) (hk:k.ok w' v (upd ρ m v)) (hstb:k.stb (kZ n m 1) (upd ρ m v))
  (hnew: ∀ x,bK v=some x→w.heap.size≤x):HS w0 Wr (upd ρ m v) ((m,k) :: h) (kZ n m 1) w':=
 (hs.below hb).newG hm hv hk hstb fun x hx=>⟨fun j c hj _ hxj=>by
  have:=Blk.block (hs.ok j c hj).2.1 hxj
  have:=hnew x hx
  omega, .inl (Nat.le_trans hs.size (hnew x hx))⟩
theorem HS.write (hs:HS w0 Wr ρ h n w) {w':World} {id b:Nat} {k k':Blk} (hl:aN h id=some k) (hown:k.own=true) (hbo:bK (ρ id)=some b)
  (hblk: ∀ x,x≠b→w'.heap[x]? =w.heap[x]?) (hsz:w'.heap.size=w.heap.size) (hos:w'.os=w.os) (htape:w'.tape=w.tape) (hout:w'.output=w.output∧w'.drawn=w.drawn)
  (hk:k'.ok w' (ρ id) ρ) (hstb:k'.stb n ρ):HS w0 Wr ρ (Ei h id k') n w' where
 one:=hs.one
 ok i c hi:=by
  rw[cO] at hi
  split at hi
  ·rename_i he
   subst he
   rw[hl] at hi
   simp only[Option.map_some,Option.some.injEq] at hi
   subst hi
   exact⟨(hs.ok i k hl).1,hk,hstb⟩
  ·rename_i hne
   obtain⟨h1,h2,h3⟩:=hs.ok i c hi
   by_cases hlv:c.live=true
   ·refine⟨h1,Blk.ok_of_block (by omega) (fun x hx=>hblk x fun e=>?_) h2,h3⟩
    subst e
    exact hs.sep id k i c hl hi (fun e=>hne e.symm) hown hlv x hbo hx
   ·cases c with
    | gone=>exact⟨h1,fun x hx=>by have:x < w.heap.size:=h2 x hx;omega,h3⟩
    | fix=>exact absurd rfl hlv
    | vec=>exact absurd rfl hlv
 sep i c j d hi hj hij ho hlv x hx:=by
  rw[cO] at hi hj
  have hi': ∃ c',aN h i=some c'∧c'.own=true:=by
   split at hi
   ·rename_i he;subst he;exact⟨k,hl,hown⟩
   ·exact⟨c,hi,ho⟩
  have hj': ∃ d',aN h j=some d'∧d'.live=true:=by
   split at hj
   ·rename_i he;subst he;exact⟨k,hl,Blk.live_own hown⟩
   ·exact⟨d,hj,hlv⟩
  obtain⟨c',hc',hco⟩:=hi'
  obtain⟨d',hd',hdl⟩:=hj'
  exact hs.sep i c' j d' hc' hd' hij hco hdl x hx
 wr i c x hi ho hx:=by
  rw[cO] at hi
  split at hi
  ·rename_i he;subst he;exact hs.wr i k x hl hown hx
  ·exact hs.wr i c x hi ho hx
 org i c x hi ho hx:=by
  rw[cO] at hi
  split at hi
  ·rename_i he;subst he;exact hs.org i k x hl (Blk.live_own hown) hx
  ·exact hs.org i c x hi ho hx
 frame x hx hn:=by
  have hne:x≠b:=fun e=>by
   subst e
   rcases hs.wr id k x hl hown hbo with h1 | h1
   ·omega
   ·exact hn h1
  rw[hblk x hne]
  exact hs.frame x hx hn
 os:=hos.trans hs.os
 tape:=htape.trans hs.tape
 output:=hout.1.trans hs.output
 drawn:=by rw[hout.2];exact hs.drawn
 size:=by rw[hsz];exact hs.size
 ag:=hs.ag
 inn:=hs.inn
theorem dS {g:Nat} : ∀ (vs:List Value) (o:Nat) {w:World} (k:Nat),k≠g→(w.setCells g o vs).heap[k]? =w.heap[k]?
 | [],_,_,_,_=>rfl
 | v :: vs,o,w,k,h=>by
  simp only[World.setCells]
  rw[dS vs (o+1) k h]
  exact RowKit.Below.heap_setCell w ⟨g,o,none⟩ v k (fun e=>h e)
theorem cW (g:Nat): ∀ (vs:List Value) (o:Nat) (w:World),(w.setCells g o vs).os=w.os∧(w.setCells g o vs).tape=w.tape∧((w.setCells g o vs).output=w.output∧(w.setCells g o vs).drawn=w.drawn)∧(w.setCells g o vs).heap.size=w.heap.size
 | [],_,_=>⟨rfl,rfl,⟨rfl,rfl⟩,rfl⟩
 | v :: vs,o,w=>by
  obtain⟨h1,h2,h3,h4⟩:=cW g vs (o+1) (w.setCell ⟨g,o,none⟩ v)
  exact⟨h1,h2,h3,by simpa [World.setCells] using h4⟩
theorem d9 {b o:Nat} {cs:List Value} (hc:w.rangeAt b o cs) (ht:w.there b o cs.length) {off:Nat} {new:List Value} (hle:off+new.length≤cs.length) :
  (w.setCells b (o+off) new).rangeAt b o (cs.take off++(new++cs.drop (off+new.length))):=by
 intro j v hv
 have hsome: ∀ j,j < new.length→(w.cell? ⟨b,o+off+j,none⟩).isSome=true:=fun j hj=>by
  have:=(ht (off+j) (by omega)).1
  rwa [← Nat.add_assoc] at this
 by_cases h1:j < off
 ·rw[List.getElem?_append_left (by simp;omega),List.getElem?_take,if_pos h1] at hv
  rw[World.cell?_setCells_out b new (o+off) w ⟨b,o+j,none⟩ (fun _ _=> .inl (by simp;omega))]
  exact hc j v hv
 ·rw[List.getElem?_append_right (by simp;omega)] at hv
  have hlen:(cs.take off).length=off:=by simp;omega
  rw[hlen] at hv
  by_cases h2:j < off+new.length
  ·rw[List.getElem?_append_left (by omega)] at hv
   have:=World.cell?_setCells_in b new (o+off) w hsome (j - off) (by omega)
   rw[show o+j=o+off+(j - off) from by omega,this]
   rw[← hv]
   simp[show j - off < new.length from by omega]
  ·rw[List.getElem?_append_right (by omega),List.getElem?_drop] at hv
   rw[World.cell?_setCells_out b new (o+off) w ⟨b,o+j,none⟩ (fun _ _=> .inr (by simp;omega))]
   exact hc j v (by rw[← hv];congr 1;omega)
theorem rN (t:Nat) (v:Value):(newVar t v).run P w= .ok ⟨w.heap.size,0,none⟩ (w.alloc (.cells v.cells t)):=by
 simp[newVar,newRow]
theorem fW (o:Obj):Low w.heap.size w (w.alloc o):=(Low.refl _ _).alloc (Nat.le_refl _) o
theorem CJ {l:List At} {t:Nat} {ρ':Rho} (hl:aI ρ' l=aI ρ l):(Blk.fix true l).ok (w.alloc (.cells (aI ρ l).toArray t)) (.pointer (some ⟨w.heap.size,0,none⟩)) ρ':=by
 refine⟨w.heap.size,0,rfl,by simp,?_,fun _ j hj=>?_⟩
 ·intro j v hv
  rw[hl] at hv
  simp only[Nat.zero_add]
  rw[World.cell?_alloc_new]
  simpa using hv
 ·simp only[Nat.zero_add]
  rw[World.cell?_alloc_new]
  constructor
  ·simp[hj]
  ·simp[World.frozen?, -World.alloc_eq,World.alloc]
theorem DA (hs:HS w0 Wr ρ h n w) (hm: ∀ i,n i→i < m) {l:List At} {t:Nat} (hl:kY n ρ l) :
  Did w0 Wr ρ h n m w ⟨[], .c (.s (.hp m 0)),[.fix true l],[]⟩ (.pointer (some ⟨w.heap.size,0,none⟩)) (w.alloc (.cells (aI ρ l).toArray t)):=by
 refine⟨upd ρ m (.pointer (some ⟨w.heap.size,0,none⟩)),fF _ hm _,?_,fun ρ' ha=>?_,?_,But.of (fW _),fun i x h1 h2 hx=> .inl ?_⟩
 ·show _=cF (upd ρ m _ m) 0
  rw[dE];simp[cF,Addr.add]
 ·show cF (ρ' m) 0=cF (upd ρ m _ m) 0
  rw[ha m (.inr ⟨Nat.le_refl _,by simp⟩)]
 ·refine hs.new hm (fW _) rfl (CJ (hl _ (fF _ hm _))) ?_ (fun x hx=>by simp[bK] at hx;omega)
  exact kY.mono (kY.move hl (fF _ hm _)) fun _=>mG
 ·simp only[List.length_cons,List.length_nil] at h2
  have:i=m:=by omega
  subst this
  rw[dE] at hx
  simp[bK] at hx;omega
theorem HS.addI0 (hs:HS w0 Wr ρ h n w):HS w0 Wr ρ h (kZ n m 0) w where
 one:=hs.one
 ok id b hl:=by obtain⟨h1,h2,h3⟩:=hs.ok id b hl;exact⟨.inl h1,h2,Blk.stb_move h3 (bZ.refl _ _) fun _=>mG⟩
 sep:=hs.sep
 wr:=hs.wr
 org:=hs.org
 frame:=hs.frame
 os:=hs.os
 tape:=hs.tape
 output:=hs.output
 drawn:=hs.drawn
 size:=hs.size
 ag:=hs.ag
 inn:=fun i hi=> .inl (hs.inn i hi)
theorem kU (hs:HS w0 Wr ρ h n w) {w':World} {id b:Nat} {k k':Blk} (hl:aN h id=some k) (hown:k.own=true) (hbo:bK (ρ id)=some b)
  (hblk: ∀ x,x≠b→w'.heap[x]? =w.heap[x]?) (hsz:w'.heap.size=w.heap.size) (hos:w'.os=w.os) (htape:w'.tape=w.tape) (hout:w'.output=w.output∧w'.drawn=w.drawn)
  (hk:k'.ok w' (ρ id) ρ) (hstb:k'.stb n ρ) {ob:List Bool} :
  Did w0 Wr ρ h n m w ⟨ob, .c (.s .un),[],[(id,k')]⟩ undef w':=
 ⟨ρ,bZ.refl _ _,rfl,fun _ _=>rfl,(hs.write hl hown hbo hblk hsz hos htape hout hk hstb).addI0,⟨hos,htape,hout.1,Nat.le_of_eq hout.2.symm,Nat.le_of_eq hsz.symm,fun x _ hn=>hblk x fun e=>hn ⟨id,k',List.mem_cons_self ..,by rw[hbo,e]⟩⟩,fun i x h1 h2=>by simp at h2;omega⟩
theorem fN {t:Nat} {i:TI} (ht:fP P t i) {b o:Nat} {v:CV} (h1: ∀ i,(ρ i).oneCell'=true) (hn:jD v.atoms=true) (hsz:bO v.atoms=i.size) (hth:w.there b o i.size) :
  (Instr.storeAt t (.pointer (some ⟨b,o,none⟩)) (v.den ρ)).run P w= .ok () (w.setCells b o (aI ρ v.atoms)):=by
 have hc:=gP h1 hn
 have hone:=uX h1 hn
 have hrun:=run_storeCells_cells (P:=P) b o (aI ρ v.atoms) 0 w (fun j hj=>by simpa using (hth j (by simp at hj;omega)).1) (fun j hj=>by simpa using (hth j (by simp at hj;omega)).2) hone
 simp only[Nat.add_zero] at hrun
 simp only[Instr.storeAt,Instr.sureAddr,Sem.run_bind,Sem.run_pure,Result.andThen_ok]
 unfold storeVar
 rw[Sem.run_bind,cG ht.size]
 simp[hc,hsz,hrun]
theorem aiZ {α:Type} (l:List α) (off k:Nat) (m:List α) (v:α) (hk:k < m.length) (hm:(l.drop off).take m.length=m) :
  l.take off++(m.set k v++l.drop (off+m.length))=l.take (off+k)++([v]++l.drop (off+k+1)):=by
 have hlen:off+m.length≤l.length:=by
  have:=congrArg List.length hm
  simp at this
  omega
 apply List.ext_getElem?
 intro j
 have hmj: ∀ i,i < m.length→l[off+i]? =m[i]? :=fun i hi=>by
  have:=congrArg (fun l=>l[i]?) hm
  simp only[List.getElem?_take,hi,if_true,List.getElem?_drop] at this
  exact this
 by_cases h1:j < off
 ·rw[List.getElem?_append_left (by simp;omega),List.getElem?_append_left (by simp;omega),List.getElem?_take,List.getElem?_take,if_pos h1,if_pos (by omega)]
 ·by_cases h2:j < off+m.length
  ·rw[List.getElem?_append_right (by simp;omega),List.getElem?_append_left (by simp;omega)]
   have e:j - (l.take off).length=j - off:=by simp;omega
   rw[e,List.getElem?_set]
   by_cases h3:j < off+k
   ·rw[if_neg (by omega),List.getElem?_append_left (by simp;omega),List.getElem?_take,if_pos h3, ← hmj (j - off) (by omega)]
    congr 1;omega
   ·by_cases h4:j=off+k
    ·subst h4
     rw[if_pos (by omega),if_pos (by omega),List.getElem?_append_right (by simp;omega)]
     have:off+k - (l.take (off+k)).length=0:=by simp;omega
     rw[this];rfl
    ·rw[if_neg (by omega),List.getElem?_append_right (by simp;omega),List.getElem?_append_right (by simp;omega),List.getElem?_drop, ← hmj (j - off) (by omega)]
     congr 1;simp;omega
  ·rw[List.getElem?_append_right (by simp;omega),List.getElem?_append_right (by simp;omega),List.getElem?_append_right (by simp;omega),List.getElem?_append_right (by simp;omega),List.getElem?_drop,List.getElem?_drop]
   congr 1;simp;omega
theorem yI {k:IntKind} {l:List At} {e:Int} (h':ofInt k l=some e) (ρ:Rho):aI ρ l=[.int k e]:=by
 unfold ofInt at h'
 split at h'
 ·split at h'
  ·rename_i hk;subst hk;simp only[Option.some.injEq] at h';subst h';rfl
  ·simp at h'
 ·split at h'
  ·rename_i hk;subst hk;simp only[Option.some.injEq] at h';subst h';rfl
  ·simp at h'
 ·simp at h'
theorem AK.of_flats {k:AK} {l:List At} {e:k.ty} (h:k.of1 l=some e) (ρ:Rho):aI ρ l=(k.at1 e).cells ρ:=by
 cases k with
 | int k=>exact yI h ρ
 | bool=>
  have h':amN l=some e:=h
  unfold amN at h'
  split at h' <;> first
   |(simp only[Option.some.injEq] at h';subst h';rfl)
   | simp at h'
 | W=>
  have h':Fc l=some e:=h
  unfold Fc at h'
  split at h' <;> first
   |(simp only[Option.some.injEq] at h';subst h';simp[aI,AK.at1])
   | simp at h'
 | R=>
  have h':Fb l=some e:=h
  unfold Fb at h'
  split at h' <;> first
   |(simp only[Option.some.injEq] at h';subst h';simp[aI,AK.at1])
   | simp at h'
 | P=>
  have h':Fa l=some e:=h
  unfold Fa at h'
  split at h' <;> first
   |(simp only[Option.some.injEq] at h';subst h';simp[aI,AK.at1])
   | simp at h'
theorem rA (ρ:Rho): ∀ {ks:List AK} {l:List At} {e:r6 ks},wC ks l=some e→aI ρ l=aI ρ (ad1 ks e)
 | [],[],e,h=>rfl
 | [],_ :: _,_,h=>by simp[wC] at h
 | k :: r,l,e,h=>by
  simp only[wC] at h
  split at h
  ·rename_i m q hm hq
   split at h
   ·rename_i x y hx hy
    simp only[Option.some.injEq] at h
    subst h
    obtain⟨_,h2⟩:=mD ρ _ _ _ _ hm
    obtain⟨_,h4⟩:=fX ρ _ _ _ _ hq
    have h5:=AK.of_flats hx ρ
    have h6:=rA ρ hy
    rw[eF] at h5
    simp only[ad1,aI]
    rw[← h5, ← h6,h2,h4,List.take_append_drop]
   ·simp at h
  ·simp at h
theorem RK.of_flats {k:RK} {l:List At} {e:k.ty} (h:k.of l=some e) (ρ:Rho):aI ρ l=aI ρ (k.at e):=by
 cases k with
 | wd=>
  have h':Fc l=some e:=h
  unfold Fc at h'
  split at h' <;> first
   |(simp only[Option.some.injEq] at h';subst h';rfl)
   | simp at h'
 | row ks=>exact rA ρ h
 | int k=>
  have h':ofInt k l=some e:=h
  unfold ofInt at h'
  split at h'
  ·split at h'
   ·rename_i hk;subst hk;simp only[Option.some.injEq] at h';subst h';rfl
   ·simp at h'
  ·split at h'
   ·rename_i hk;subst hk;simp only[Option.some.injEq] at h';subst h';rfl
   ·simp at h'
  ·simp at h'
 | bool=>
  have h':amN l=some e:=h
  unfold amN at h'
  split at h' <;> first
   |(simp only[Option.some.injEq] at h';subst h';rfl)
   | simp at h'
 | rt=>
  have h':Fb l=some e:=h
  unfold Fb at h'
  split at h' <;> first
   |(simp only[Option.some.injEq] at h';subst h';rfl)
   | simp at h'
 | pt=>
  have h':Fa l=some e:=h
  unfold Fa at h'
  split at h' <;> first
   |(simp only[Option.some.injEq] at h';subst h';rfl)
   | simp at h'
 | i3=>
  have h':NB l=some e:=h
  unfold NB at h'
  split at h'
  ·split at h'
   ·rename_i h1 h2 h3;simp only[Option.some.injEq] at h';subst h'
    simp[RK.at,aI,At.cells,cI h1,cI h2,cI h3];exact⟨rfl,rfl,rfl⟩
   ·simp at h'
  ·simp at h'
theorem RK.flat_set (k:RK) (l:List k.ty) (q:Nat) (el:k.ty) (hq:q < l.length) :
  k.flat (l.set q el)=(k.flat l).take (q*k.esz)++(aI (fun _=>undef) (k.at el)++(k.flat l).drop (q*k.esz+k.esz)):=by
 induction l generalizing q with
 | nil=>simp at hq
 | cons a r ih=>
  have hl: ∀ x,(aI (fun _=>undef) (k.at x)).length=k.esz:=fun x=>by simp[RK.at_sizes]
  have hf: ∀ (x:k.ty) r,k.flat (x :: r)=aI (fun _=>undef) (k.at x)++k.flat r:=fun x r=>by simp[RK.flat]
  cases q with
  | zero=>
   rw[List.set_cons_zero,hf,hf]
   simp[List.drop_append,RK.at_sizes]
  | succ q=>
   rw[List.set_cons_succ,hf,hf,ih q (by simpa using hq)]
   rw[List.take_append,List.drop_append]
   have e1:(aI (fun _=>undef) (k.at a)).take ((q+1)*k.esz)=aI (fun _=>undef) (k.at a):=List.take_of_length_le (by rw[hl,Nat.add_mul];omega)
   have e2:(aI (fun _=>undef) (k.at a)).drop ((q+1)*k.esz+k.esz)=[]:=List.drop_eq_nil_of_le (by rw[hl,Nat.add_mul];omega)
   rw[e1,e2,hl]
   rw[show(q+1)*k.esz - k.esz=q*k.esz from by rw[Nat.add_mul];omega,show(q+1)*k.esz+k.esz - k.esz=q*k.esz+k.esz from by rw[Nat.add_mul];omega]
   simp
theorem BK (d e:Dg) (q y:Nat) (hq:q < 64) (hy:y < 2 ^ 32):aI ρ [At.D (aA.setLo d (q:Int) (y:Int)),At.D (aA.setHi e (q:Int) (y:Int))]=(d.cells++e.cells).set q (.int .u32 (y:Nat)):=by
 have e1:aA.setLo d (q:Int) (y:Int)=if(q:Int) < 32 then d.set q y else d:=rfl
 have e2:aA.setHi e (q:Int) (y:Int)=if(q:Int) < 32 then e else e.set (q - 32) y:=rfl
 rw[e1,e2]
 simp only[aI,At.cells,List.append_nil]
 by_cases h:q < 32
 ·rw[if_pos (by omega),if_pos (by omega),Dg.set_cells d q y h hy,List.set_append_left _ _ (by simpa using h)]
 ·rw[if_neg (by omega),if_neg (by omega),Dg.set_cells e (q - 32) y (by omega) hy,List.set_append_right _ _ (by simp;omega)]
  simp
theorem tN {t:Nat} {i:TI} (ty:fP P t i) (hs:HS w0 Wr ρ h n w) {id b o base q y:Nat} {l new m':List At} {v:CV} {ob:List Bool} (hl:aN h id=some (.fix true l)) (h1:ρ id= .pointer (some ⟨b,o,none⟩)) (h3:w.rangeAt b o (aI ρ l)) (hth:w.there b o (bO l))
  (hnu:jD v.atoms=true) (hsz:bO v.atoms=i.size) (hfv:aI ρ v.atoms=[.int .u32 (y:Int)]) {cells:List Value} (hq:q < cells.length) (h10:((aI ρ l).drop base).take cells.length=cells) (h9:base+cells.length≤bO l)
  (hm:Ff l base new=some m') (h6:kY n ρ l) (hset:aI ρ new=cells.set q (.int .u32 (y:Nat))) (hnew: ∀ ρ',aI ρ' new=aI ρ new) :
  ∃ w',(Instr.storeAt t ((Sc.pe id base 1 (q:Int) 0).den ρ) (v.den ρ)).run P w= .ok () w'∧Did w0 Wr ρ h n m w ⟨ob, .c (.s .un),[],[(id, .fix true m')]⟩ undef w':=by
 obtain⟨h7,h8⟩:=cR ρ hm
 have hb:b < w.heap.size:=by
  obtain⟨b',o',g1,g2,_⟩:=hs.fix hl
  rw[h1] at g1
  simp at g1
  omega
 have hi1:i.size=1:=by rw[← hsz, ← flats_length ρ v.atoms,hfv];rfl
 have hden:(Sc.pe id base 1 (q:Int) 0).den ρ= .pointer (some ⟨b,o+(base+q),none⟩):=by
  simp[Sc.den,h1,cF,Addr.add_mid]
 rw[hden]
 refine⟨_,fN ty hs.one hnu hsz (fun k hk=>?_),?_⟩
 ·have:=hth (base+q+k) (by omega)
  rwa [← Nat.add_assoc] at this
 ·rw[hfv]
  obtain⟨e1,e2,e3,e4⟩:=cW b [Value.int .u32 (y:Int)] (o+(base+q)) w
  have hsn:bO new=cells.length:=by rw[← flats_length ρ new,hset,List.length_set]
  have hfm:aI ρ m'=(aI ρ l).take (base+q)++([.int .u32 (y:Int)]++(aI ρ l).drop (base+q+1)):=by
   rw[h8,hset,hsn]
   exact aiZ (aI ρ l) base q cells (.int .u32 (y:Nat)) hq h10
  refine kU (k':= .fix true m') hs hl rfl (by rw[h1];rfl) (fun x hx=>dS _ _ x hx) e4 e1 e2 e3 ⟨b,o,h1,by omega,?_,fun _=>?_⟩ (fun ρ' ha=>?_)
  ·rw[hfm]
   have:=d9 h3 (by simpa using hth) (off:=base+q) (new:=[Value.int .u32 (y:Int)]) (by simp;omega)
   simpa using this
  ·rw[lI hm]
   exact World.there_setCells hth b (o+(base+q)) _
  ·rw[h8,(cR ρ' hm).2,h6 ρ' ha,hnew ρ']
theorem wT {l:List At} : ∀ {off y:Nat} {m:List At},wS aA l off (y:Int)=some m→y < 2 ^ 32→
  off+1≤bO l∧bO m=bO l∧ ∀ ρ,aI ρ m=(aI ρ l).take off++([.int .u32 (y:Int)]++(aI ρ l).drop (off+1)):=by
 induction l with
 | nil=>intro off y m h;simp[wS] at h
 | cons a r ih=>
  intro off y m h hy
  simp only[wS] at h
  have key: ∀ (cs:List Value) (q:Nat) (v:Value),q < cs.length→cs.set q v=cs.take q++([v]++cs.drop (q+1)):=fun cs q v hq=>by
   rw[List.set_eq_take_append_cons_drop,if_pos hq];rfl
  split at h
  ·rename_i hlt
   cases a with
   | D d=>
    simp only[Option.some.injEq] at h
    subst h
    simp only[At.size] at hlt
    have hs:(d.set off y).cells=d.cells.take off++([.int .u32 (y:Int)]++d.cells.drop (off+1)):=by
     rw[Dg.set_cells d off y hlt hy];exact key _ _ _ (by simpa using hlt)
    refine⟨by simp[bO,At.size];omega,by simp[bO,At.size],fun ρ=>?_⟩
    show(aA.setD d (off:Int) (y:Int)).cells++aI ρ r=_
    have e:aA.setD d (off:Int) (y:Int)=d.set off y:=rfl
    rw[e,hs]
    simp only[aI,At.cells]
    rw[List.take_append_of_le_length (by simp;omega),List.drop_append_of_le_length (by simp;omega)]
    simp
   | W x=>
    simp only[At.size] at hlt
    cases off with
    | zero=>simp at h
    | succ o=>
     simp only[Option.some.injEq] at h
     subst h
     have ho:o < 32:=by omega
     have hs:(x.d.set o y).cells=x.d.cells.take o++([.int .u32 (y:Int)]++x.d.cells.drop (o+1)):=by
      rw[Dg.set_cells x.d o y ho hy];exact key _ _ _ (by simpa using ho)
     refine⟨by simp[bO,At.size];omega,by simp[bO,At.size],fun ρ=>?_⟩
     show(.bool x.neg :: (aA.setD x.d (o:Int) (y:Int)).cells)++aI ρ r=_
     have e:aA.setD x.d (o:Int) (y:Int)=x.d.set o y:=rfl
     rw[e,hs]
     simp only[aI,At.cells,Wd.cells]
     rw[List.take_append_of_le_length (by simp;omega),List.drop_append_of_le_length (by simp;omega)]
     simp
   | s x=>simp at h
   | R x=>simp at h
   | P x=>simp at h
  ·rename_i hge
   split at h
   ·rename_i m' hm
    simp only[Option.some.injEq] at h
    subst h
    obtain⟨g1,g2,g3⟩:=ih hm hy
    refine⟨by simp[bO];omega,by simp[bO,g2],fun ρ=>?_⟩
    simp only[aI,g3 ρ]
    have e1:(a.cells ρ++aI ρ r).take off=a.cells ρ++(aI ρ r).take (off - a.size):=by
     rw[List.take_append,List.take_of_length_le (by simp;omega)];simp
    have e2:(a.cells ρ++aI ρ r).drop (off+1)=(aI ρ r).drop (off - a.size+1):=by
     rw[List.drop_append,List.drop_eq_nil_of_le (by simp;omega)]
     simp only[At.cells_length,List.nil_append]
     congr 1;omega
    rw[e1,e2];simp
   ·simp at h
theorem RK.flat_get (k:RK): ∀ (l:List k.ty) (q:Nat) (hq:q < l.length),aI (fun _=>undef) (k.at l[q])=((k.flat l).drop (q*k.esz)).take k.esz
 | [],q,hq=>by simp at hq
 | a :: r,q,hq=>by
  have hl:(aI (fun _=>undef) (k.at a)).length=k.esz:=by simp[RK.at_sizes]
  have hf:k.flat (a :: r)=aI (fun _=>undef) (k.at a)++k.flat r:=by simp[RK.flat]
  cases q with
  | zero=>rw[hf,Nat.zero_mul,List.drop_zero,List.take_append_of_le_length (by omega),List.take_of_length_le (by omega)];rfl
  | succ q=>
   have ih:=RK.flat_get k r q (by simpa using hq)
   rw[List.getElem_cons_succ,ih,hf,List.drop_append,List.drop_eq_nil_of_le (as:=aI (fun _=>undef) (k.at a)) (by rw[hl,Nat.add_mul];omega),List.nil_append,hl]
   have:(q+1)*k.esz - k.esz=q*k.esz:=by rw[Nat.add_mul];omega
   rw[this]
theorem Es (F nv:List Value) {a z off s:Nat} (h:off+s≤z):F.take a++((((F.drop a).take z).take off++(nv++((F.drop a).take z).drop (off+s)))++F.drop (a+z))=F.take (a+off)++(nv++F.drop (a+off+s)):=by
 have e1:((F.drop a).take z).take off=(F.drop a).take off:=by rw[List.take_take];congr 1;omega
 have e2:((F.drop a).take z).drop (off+s)++F.drop (a+z)=F.drop (a+off+s):=by
  have h1:F.drop (a+z)=(F.drop a).drop z:=by rw[List.drop_drop]
  have h2:F.drop (a+off+s)=(F.drop a).drop (off+s):=by rw[List.drop_drop,Nat.add_assoc]
  rw[h1,h2]
  generalize F.drop a=G
  have h3:G.drop (off+s)=(G.take z++G.drop z).drop (off+s):=by rw[List.take_append_drop]
  rw[h3,List.drop_append]
  by_cases hz:z≤G.length
  ·rw[List.length_take,show off+s - min z G.length=0 from by omega,List.drop_zero]
  ·rw[List.drop_eq_nil_of_le (as:=G) (i:=z) (by omega)];simp
 rw[e1,List.take_add,List.append_assoc,List.append_assoc,List.append_assoc,e2]
theorem Et (hA:K.A=aA) (hT:TOK P K.T) (hs:HS w0 Wr ρ h n w) {t:Nat} {p:Sc} {v:CV} {r:FR} (hv:kY n ρ v.atoms) (e:xR K h t p v=some r) (hob: ∀ b,b∈r.ob→b=true) :
  ∃ w',(Instr.storeAt t (p.den ρ) (v.den ρ)).run P w= .ok () w'∧Did w0 Wr ρ h n m w r undef w':=by
 unfold xR at e
 split at e
 ·simp at e
 ·rename_i i ht
  have ty:=hT _ _ ht
  split at e
  ·rename_i hc
   simp only[Bool.and_eq_true,beq_iff_eq] at hc
   obtain⟨hsz,hnu⟩:=hc
   split at e
   ·
     rename_i id off
     split at e
     ·rename_i l hl
      split at e
      ·rename_i m' hm
       simp only[wrR,Option.some.injEq] at e
       subst e
       obtain⟨b,o,h1,h2,h3,h4,h5,h6⟩:=hs.fix hl
       obtain⟨h7,h8⟩:=cR ρ hm
       have hth:=h4 rfl
       rw[fR h1]
       refine⟨_,fN ty hs.one hnu hsz (fun j hj=>?_),?_⟩
       ·have:=hth (off+j) (by omega)
        rwa [← Nat.add_assoc] at this
       ·obtain⟨g1,g2,g3,g4⟩:=cW b (aI ρ v.atoms) (o+off) w
        refine kU (k':= .fix true m') hs hl rfl (by rw[h1];rfl) (fun x hx=>dS _ _ x hx) g4 g1 g2 g3 ⟨b,o,h1,by omega,?_,fun _=>?_⟩ (fun ρ' ha=>?_)
        ·rw[h8]
         have:=d9 h3 (by simpa using hth) (off:=off) (new:=aI ρ v.atoms) (by simpa using h7)
         simpa using this
        ·rw[lI hm]
         exact World.there_setCells hth b (o+off) _
        ·rw[h8,(cR ρ' hm).2,h6 ρ' ha,hv ρ' ha]
      ·split at e
       ·rename_i x hno
        split at e
        ·rename_i lit z hz
         split at e
         ·rename_i m' hm
          simp only[wrR,Option.some.injEq] at e
          subst e
          rw[hA] at hm hob
          have g3:=v9 (hob _ (List.mem_cons_self ..))
          have g4:=iA (hob _ (List.mem_cons_of_mem _ (List.mem_cons_self ..)))
          obtain⟨y,rfl⟩:=Int.eq_ofNat_of_zero_le g3
          obtain⟨b,o,h1,h2,h3,h4,h5,h6⟩:=hs.fix hl
          obtain⟨h7,h8,h9⟩:=wT hm (by omega)
          have hth:=h4 rfl
          have hfv: ∀ ρ,aI ρ (CV.s x).atoms=[.int .u32 (y:Int)]:=fun ρ=>by simp[CV.atoms,aI,At.cells,cI hz]
          have hs1:bO (CV.s x).atoms=1:=rfl
          rw[fR h1]
          refine⟨_,fN ty hs.one hnu hsz (fun j hj=>?_),?_⟩
          ·have:=hth (off+j) (by rw[← hsz,hs1] at hj;omega)
           rwa [← Nat.add_assoc] at this
          ·obtain⟨g1,g2,g3,g4⟩:=cW b (aI ρ (CV.s x).atoms) (o+off) w
           refine kU (k':= .fix true m') hs hl rfl (by rw[h1];rfl) (fun x hx=>dS _ _ x hx) g4 g1 g2 g3 ⟨b,o,h1,by omega,?_,fun _=>?_⟩ (fun ρ' ha=>?_)
           ·rw[h9 ρ]
            have:=d9 h3 (by simpa using hth) (off:=off) (new:=aI ρ (CV.s x).atoms) (by rw[hfv,flats_length];simpa using h7)
            rw[hfv] at this ⊢
            simpa using this
           ·rw[h8]
            exact World.there_setCells hth b (o+off) _
           ·rw[h9 ρ',h9 ρ,h6 ρ' ha]
         ·simp at e
        ·simp at e
       ·simp at e
     ·simp at e
   ·
     rename_i id base esz j off
     split at e
     ·rename_i l x hl
      split at e
      ·rename_i hc
       simp only[Bool.and_eq_true,beq_iff_eq,Bool.not_eq_true'] at hc
       obtain⟨⟨⟨hc1,hc2⟩,hc3⟩,hc4⟩:=hc
       subst hc1 hc2
       split at e
       ·rename_i d d' lit z hd hz
        split at e
        ·rename_i m' hm
         simp only[wrR,Option.some.injEq] at e
         subst e
         rw[hA] at hm hob
         obtain⟨b,o,h1,h2,h3,h4,h5,h6⟩:=hs.fix hl
         have g1:=v9 (hob _ (List.mem_cons_self ..))
         have g2:=iA (hob _ (List.mem_cons_of_mem _ (List.mem_cons_self ..)))
         have g3:=v9 (hob _ (List.mem_cons_of_mem _ (List.mem_cons_of_mem _ (List.mem_cons_self ..))))
         have g4:=iA (hob _ (List.mem_cons_of_mem _ (List.mem_cons_of_mem _ (List.mem_cons_of_mem _ (List.mem_cons_self ..)))))
         obtain⟨q,rfl⟩:=Int.eq_ofNat_of_zero_le g1
         obtain⟨y,rfl⟩:=Int.eq_ofNat_of_zero_le g3
         obtain⟨h9,h10⟩:=vL (ρ:=ρ) hd
         have hfv:aI ρ (CV.s x).atoms=[.int .u32 (y:Int)]:=by simp[CV.atoms,aI,At.cells,cI hz]
         refine tN ty hs hl h1 h3 (h4 rfl) hnu hsz hfv (cells:=d.cells++d'.cells) (by simp;omega) (by simpa using h10) (by simpa using h9) hm h6 ?_ (fun _=>rfl)
         exact BK d d' q y (by omega) (by omega)
        ·simp at e
       ·rename_i lit z hd hz
        split at e
        ·rename_i d hd'
         split at e
         ·rename_i m' hm
          simp only[wrR,Option.some.injEq] at e
          subst e
          rw[hA] at hm hob
          obtain⟨b,o,h1,h2,h3,h4,h5,h6⟩:=hs.fix hl
          have g1:=v9 (hob _ (List.mem_cons_self ..))
          have g2:=iA (hob _ (List.mem_cons_of_mem _ (List.mem_cons_self ..)))
          have g3:=v9 (hob _ (List.mem_cons_of_mem _ (List.mem_cons_of_mem _ (List.mem_cons_self ..))))
          have g4:=iA (hob _ (List.mem_cons_of_mem _ (List.mem_cons_of_mem _ (List.mem_cons_of_mem _ (List.mem_cons_self ..)))))
          obtain⟨q,rfl⟩:=Int.eq_ofNat_of_zero_le g1
          obtain⟨y,rfl⟩:=Int.eq_ofNat_of_zero_le g3
          obtain⟨h9,h10⟩:=j7 (ρ:=ρ) hd'
          have hfv:aI ρ (CV.s x).atoms=[.int .u32 (y:Int)]:=by simp[CV.atoms,aI,At.cells,cI hz]
          refine tN ty hs hl h1 h3 (h4 rfl) hnu hsz hfv (cells:=d.cells) (by simp;omega) (by simpa using h10) (by simpa using h9) hm h6 ?_ (fun _=>rfl)
          have hset:aA.setD d (q:Int) (y:Int)=d.set q y:=rfl
          rw[hset]
          simp only[aI,At.cells,List.append_nil]
          exact Dg.set_cells d q y (by omega) (by omega)
         ·simp at e
        ·simp at e
       ·simp at e
      ·simp at e
     ·simp at e
   ·
     rename_i id esz j off
     split at e
     ·rename_i k l hl
      split at e
      ·rename_i hc
       simp only[Bool.and_eq_true,beq_iff_eq] at hc
       obtain⟨⟨hc1,hc2⟩,hc3⟩:=hc
       subst hc1 hc2
       split at e
       ·rename_i el hel
        simp only[wrR,Option.some.injEq] at e
        subst e
        rw[hA] at hob
        have g1:=v9 (hob _ (List.mem_cons_self ..))
        have g2:j < (l.length:Int):=iA (hob _ (List.mem_cons_of_mem _ (List.mem_cons_self ..)))
        obtain⟨q,rfl⟩:=Int.eq_ofNat_of_zero_le g1
        have hq:q < l.length:=by omega
        obtain⟨b,o,cap,h1,h2,h3,h4,h5,h6⟩:=hs.vecC hl (by omega)
        have hthC:=h5 rfl
        have hth:w.there b o (k.esz*l.length):=fun j hj=>hthC j (Nat.lt_of_lt_of_le hj (Nat.mul_le_mul_left _ h2))
        have hin:q*k.esz+k.esz≤k.esz*l.length:=by
         have:=Nat.mul_le_mul_left k.esz (show q+1≤l.length from hq)
         rw[Nat.mul_add,Nat.mul_one,Nat.mul_comm] at this
         exact this
        have hfe:aI ρ v.atoms=aI (fun _=>undef) (k.at el):=by rw[RK.of_flats hel ρ];exact k.at_flats el _ _
        rw[rS h1]
        simp only[Int.toNat_natCast,Nat.add_zero]
        refine⟨_,fN ty hs.one hnu hsz (fun m hm=>?_),?_⟩
        ·have:=hth (q*k.esz+m) (by omega)
         rwa [← Nat.add_assoc] at this
        ·obtain⟨e1,e2,e3,e4⟩:=cW b (aI ρ v.atoms) (o+q*k.esz) w
         have hlen:(aI ρ v.atoms).length=k.esz:=by simp[hsz,hc3]
         have hset:aA.set l (q:Int) el=l.set q el:=rfl
         refine kU (k':= .vec true k (K.A.set l (q:Int) el)) hs hl rfl (by rw[h1];rfl) (fun x hx=>dS _ _ x hx) e4 e1 e2 e3 ⟨some ⟨b,o,none⟩,cap,?_,?_,b,o,rfl,by omega,?_,fun _=>?_⟩ trivial
         ·rw[hA,hset,List.length_set];exact h1
         ·rw[hA,hset,List.length_set];exact h2
         ·rw[hA,hset,RK.flat_set k l q el hq, ← hfe]
          have:=d9 h4 (by rw[RK.flat_length];exact hth) (off:=q*k.esz) (new:=aI ρ v.atoms) (by rw[RK.flat_length,hlen];exact hin)
          rw[hlen] at this
          exact this
         ·exact World.there_setCells hthC b _ _
       ·simp at e
      ·split at e
       ·rename_i hc2
        have hc2:esz=k.esz:=by simpa using hc2
        subst hc2
        split at e
        ·rename_i mm hmm
         split at e
         ·rename_i el hel
          simp only[wrR,Option.some.injEq] at e
          subst e
          rw[hA] at hob hmm
          have g1:=v9 (hob _ (List.mem_cons_self ..))
          have g2:j < (l.length:Int):=iA (hob _ (List.mem_cons_of_mem _ (List.mem_cons_self ..)))
          obtain⟨q,rfl⟩:=Int.eq_ofNat_of_zero_le g1
          have hq:q < l.length:=by omega
          obtain⟨b,o,cap,h1,h2,h3,h4,h5,h6⟩:=hs.vecC hl (by omega)
          have hthC:=h5 rfl
          have hth:w.there b o (k.esz*l.length):=fun j hj=>hthC j (Nat.lt_of_lt_of_le hj (Nat.mul_le_mul_left _ h2))
          have hin:q*k.esz+k.esz≤k.esz*l.length:=by
           have:=Nat.mul_le_mul_left k.esz (show q+1≤l.length from hq)
           rw[Nat.mul_add,Nat.mul_one,Nat.mul_comm] at this
           exact this
          have hge:aA.get l (q:Int) (k.dflt aA)=l[q]:=by
           show l.getD ((q:Int).toNat) _=_
           rw[Int.toNat_natCast,List.getD,List.getElem?_eq_getElem hq];rfl
          rw[hge] at hmm
          obtain⟨u1,u2⟩:=cR (fun _=>undef) hmm
          have u3:=lI hmm
          have hfl:(aI (fun _=>undef) (k.at l[q])).length=k.esz:=by simp[RK.at_sizes]
          have hvl:(aI ρ v.atoms).length=i.size:=by simp[hsz]
          have hvr:aI (fun _=>undef) v.atoms=aI ρ v.atoms:=by
           have e1:=RK.of_flats hel ρ
           have e2:=RK.of_flats hel (fun _=>undef)
           have e3:aI ρ mm=aI (fun _=>undef) mm:=by rw[e1,e2];exact k.at_flats el _ _
           obtain⟨u1',u2'⟩:=cR ρ hmm
           rw[u2,u2',k.at_flats l[q] ρ fun _=>undef] at e3
           have e4:=List.append_cancel_left e3
           exact(List.append_inj e4 (by rw[flats_length,flats_length])).1.symm
          have hoff:off+i.size≤k.esz:=by
           have:=u1
           rw[hsz,k.at_sizes] at this
           exact this
          have hfe:aI (fun _=>undef) (k.at el)=(aI (fun _=>undef) (k.at l[q])).take off++(aI ρ v.atoms++(aI (fun _=>undef) (k.at l[q])).drop (off+i.size)):=by
           rw[← RK.of_flats hel (fun _=>undef),u2,hvr,hsz]
          rw[rS h1]
          simp only[Int.toNat_natCast]
          refine⟨_,fN ty hs.one hnu hsz (fun m hm=>?_),?_⟩
          ·have:=hth (q*k.esz+off+m) (by omega)
           rwa [← Nat.add_assoc] at this
          ·obtain⟨e1,e2,e3,e4⟩:=cW b (aI ρ v.atoms) (o+(q*k.esz+off)) w
           have hset:aA.set l (q:Int) el=l.set q el:=rfl
           refine kU (k':= .vec true k (K.A.set l (q:Int) el)) hs hl rfl (by rw[h1];rfl) (fun x hx=>dS _ _ x hx) e4 e1 e2 e3 ⟨some ⟨b,o,none⟩,cap,?_,?_,b,o,rfl,by omega,?_,fun _=>?_⟩ trivial
           ·rw[hA,hset,List.length_set];exact h1
           ·rw[hA,hset,List.length_set];exact h2
           ·rw[hA,hset,RK.flat_set k l q el hq,hfe]
            have hel':aI (fun _=>undef) (k.at l[q])=((k.flat l).drop (q*k.esz)).take k.esz:=RK.flat_get k l q hq
            rw[hel',Es (k.flat l) (aI ρ v.atoms) hoff]
            have:=d9 h4 (by rw[RK.flat_length];exact hth) (off:=q*k.esz+off) (new:=aI ρ v.atoms) (by rw[RK.flat_length,hvl];omega)
            rw[hvl] at this
            exact this
           ·exact World.there_setCells hthC b _ _
         ·simp at e
        ·simp at e
       ·simp at e
     ·simp at e
   ·simp at e
  ·simp at e
theorem rJ {k:RK} : ∀ {ps:List (Nat×CV)} {j:Nat} {es:List k.ty},BI k ps j=some es→
  ps.length=es.length∧(ps.map fun p=>(p.1,p.2.den ρ))=((ps.map fun p=>p.2.den ρ).zipIdx j).map (fun x=>(x.2,x.1))∧(∀ p,p∈ps→ ∃ e,k.of p.2.atoms=some e)∧(ps.flatMap fun p=>aI ρ p.2.atoms)=k.flat es
 | [],j,es,h=>by simp only[BI,Option.some.injEq] at h;subst h;simp[RK.flat]
 |(i,v) :: r,j,es,h=>by
  simp only[BI] at h
  split at h
  ·rename_i hij
   simp only[beq_iff_eq] at hij
   subst hij
   split at h
   ·rename_i e l he hl
    simp only[Option.some.injEq] at h
    subst h
    obtain⟨h1,h2,h3,h4⟩:=rJ hl
    refine⟨by simp[h1],by simp[List.zipIdx_cons,h2],fun p hp=>?_,?_⟩
    ·simp only[List.mem_cons] at hp
     rcases hp with rfl | hp
     ·exact⟨e,he⟩
     ·exact h3 p hp
    ·rw[List.flatMap_cons,h4]
     simp only[RK.flat,List.flatMap_cons]
     rw[RK.of_flats he ρ,k.at_flats e ρ fun _=>undef]
   ·simp at h
  ·simp at h
theorem l8: ∀ (l m:List At),jD (l++m)=(jD l&&jD m)
 | [],_=>rfl
 | a :: r,m=>by
  cases a with
  | s x=>cases x <;> simp[jD,l8 r m]
  | _=>simp[jD,l8 r m]
theorem mS {f:At→List At→List At} (hf: ∀ a r,jD (f a r)=true→jD (a :: r)=true) (hc: ∀ a r q,(jD q=true→jD r=true)→jD (a :: q)=true→jD (a :: r)=true): ∀ l,jD (HO f l)=true→jD l=true
 | [],h=>h
 | a :: r,h=>hc a r (HO f r) (mS hf hc r) (hf _ _ h)
theorem nG {a:At} {r q:List At} (hi:jD q=true→jD r=true) (h:jD (a :: q)=true):jD (a :: r)=true:=by
 cases a with
 | s x=>cases x <;> first | exact hi h | cases h
 | _=>exact hi h
theorem Bn {l:List At} (h:jD (merge l)=true):jD l=true:=by
 unfold merge at h
 refine mS (f:=FY) ?_ (fun a r q=>nG) l (mS (f:=mWs) ?_ (fun a r q=>nG) _ (mS (f:=mRs) ?_ (fun a r q=>nG) _ h))
 ·intro a r h;unfold FY at h;split at h <;> first | exact h | (simpa [jD] using h)
 ·intro a r h;unfold mWs at h;split at h <;> first | exact h | (simpa [jD] using h)
 ·intro a r h;unfold mRs at h;split at h <;> first | exact h | (simpa [jD] using h)
theorem AK.of_noUn {k:AK} {l:List At} {e:k.ty} (h:k.of1 l=some e):jD l=true:=by
 cases k with
 | int k=>
  have h':ofInt k l=some e:=h
  unfold ofInt at h'
  split at h' <;> first | rfl | simp at h'
 | bool=>
  have h':amN l=some e:=h
  unfold amN at h'
  split at h' <;> first | rfl | simp at h'
 | W=>
  have h':Fc l=some e:=h
  unfold Fc at h'
  split at h' <;> first | rfl | simp at h'
 | R=>
  have h':Fb l=some e:=h
  unfold Fb at h'
  split at h' <;> first | rfl | simp at h'
 | P=>
  have h':Fa l=some e:=h
  unfold Fa at h'
  split at h' <;> first | rfl | simp at h'
theorem iR: ∀ (f n:Nat) (l a b:List At),mC f n l=some a→j9 f n l=some b→jD a=true→jD b=true→jD l=true
 | _,0,l,a,b,h1,h2,_,hb=>by
  simp only[j9,Option.some.injEq] at h2;subst h2;exact hb
 | 0,_+1,_,_,_,h1,_,_,_=>by simp[mC] at h1
 | _+1,_+1,[],_,_,h1,_,_,_=>by simp[mC] at h1
 | f+1,n+1,x :: r,a,b,h1,h2,ha,hb=>by
  simp only[mC] at h1
  simp only[j9] at h2
  by_cases hle:x.size≤n+1
  ·rw[if_pos hle] at h1 h2
   split at h1
   ·rename_i l' hl'
    simp only[Option.some.injEq] at h1
    subst h1
    refine nG (q:=l') (fun hq=>iR f _ r l' b hl' h2 hq hb) ha
   ·simp at h1
  ·rw[if_neg hle] at h1 h2
   split at h1
   ·rename_i ex hex
    simp only[hex] at h2
    have h3:=iR f (n+1) (ex++r) a b h1 h2 ha hb
    rw[l8,Bool.and_eq_true] at h3
    cases x with
    | s y=>simp[At.expand] at hex
    | _=>exact h3.2
   ·simp at h1
theorem sY: ∀ {ks:List AK} {l:List At} {e:r6 ks},wC ks l=some e→jD l=true
 | [],[],_,_=>rfl
 | [],_ :: _,_,h=>by simp[wC] at h
 | k :: r,l,e,h=>by
  simp only[wC] at h
  split at h
  ·rename_i m q hm hq
   split at h
   ·rename_i x y hx hy
    exact iR _ _ _ _ _ hm hq (Bn (AK.of_noUn hx)) (sY hy)
   ·simp at h
  ·simp at h
theorem RK.of_noUn {k:RK} {v:CV} {e:k.ty} (h:k.of v.atoms=some e):jD v.atoms=true∧bO v.atoms=k.esz:=by
 have hs:bO v.atoms=k.esz:=by
  rw[← flats_length vC,RK.of_flats h,flats_length,RK.at_sizes]
 refine⟨?_,hs⟩
 cases k with
 | wd=>
  have h':Fc v.atoms=some e:=h
  unfold Fc at h'
  split at h' <;> first
   |(rename_i heq;rw[heq];rfl)
   | simp at h'
 | row ks=>exact sY h
 | int k=>
  have h':ofInt k v.atoms=some e:=h
  unfold ofInt at h'
  split at h' <;> first
   |(rename_i heq;rw[heq];rfl)
   | simp at h'
 | bool=>
  have h':amN v.atoms=some e:=h
  unfold amN at h'
  split at h' <;> first
   |(rename_i heq;rw[heq];rfl)
   | simp at h'
 | rt=>
  have h':Fb v.atoms=some e:=h
  unfold Fb at h'
  split at h' <;> first
   |(rename_i heq;rw[heq];rfl)
   | simp at h'
 | pt=>
  have h':Fa v.atoms=some e:=h
  unfold Fa at h'
  split at h' <;> first
   |(rename_i heq;rw[heq];rfl)
   | simp at h'
 | i3=>
  have h':NB v.atoms=some e:=h
  unfold NB at h'
  split at h'
  ·rename_i x y z heq
   split at h'
   ·rename_i h1 h2 h3
    rw[heq]
    cases x <;> simp[Sc.num] at h1
    all_goals cases y <;> simp[Sc.num] at h2
    all_goals cases z <;> simp[Sc.num] at h3
    all_goals rfl
   ·simp at h'
  ·simp at h'
theorem oZ (hT:TOK P K.T) {t:Nat} {i:TI} (ht:K.T t=some i) {el esz:Nat} {k:RK} (hel:i.elem=some (el,esz,k)) (h1: ∀ i,(ρ i).oneCell'=true)
  {ps:List (Nat×CV)} {es:List k.ty} (hes:BI k ps 0=some es) {m:Nat} (hm:es.length=m) (hpos:0 < m) (hlt:m < 1000) {parts:Array (Nat×Value)} (hpa:parts.toList=ps.map fun p=>(p.1,p.2.den ρ)) :
  ∃ T,(Instr.buildSlice t m parts).run P w= .ok (.slice (some ⟨w.heap.size,0,none⟩) m m) (w.alloc (.cells (k.flat es).toArray T)):=by
 have ty:=hT _ _ ht
 obtain⟨hu,hsz,hz,hzero0,hby,hk,hk2⟩:=ty.elem _ _ _ hel
 have hzero:((P.info? el).bind (·.zero)).isSome=true:=by
  cases hq:(P.info? el).bind (·.zero) with
  | none=>simp[hq] at hzero0
  | some z=>rfl
 obtain⟨g1,g2,g3,g4⟩:=rJ (ρ:=ρ) hes
 cases hie:P.info? el with
 | none=>simp[hie] at hsz
 | some ie=>
  simp only[hie,Option.map_some,Option.some.injEq,Option.bind_some] at hsz hzero
  obtain⟨z,hzz⟩:=Option.isSome_iff_exists.1 hzero
  have hprod:0 < m*ie.size:=by rw[hsz,hz];exact Nat.mul_pos hpos hk
  have hprod2:m*ie.size≤1000*1000:=by rw[hsz,hz];exact Nat.mul_le_mul (by omega) hk2
  refine⟨el,run_buildSlice w t el m parts _ ie z hu hie hzz (by omega) (by omega) ?_⟩
  rw[hpa,g2,hsz,hz]
  rw[hsz,hz] at *
  have hlen:(ps.map fun p=>p.2.den ρ).length=m:=by simp[g1,hm]
  have hall: ∀ v,v∈(ps.map fun p=>p.2.den ρ)→v.cells.size=k.esz:=by
   intro v hv
   simp only[List.mem_map] at hv
   obtain⟨p,hp,rfl⟩:=hv
   obtain⟨e,he⟩:=g3 p hp
   obtain⟨hn,hs⟩:=RK.of_noUn he
   rw[gP h1 hn];simp[hs]
  have hfl:((ps.map fun p=>p.2.den ρ).flatMap fun v=>v.cells.toList)=k.flat es:=by
   rw[List.flatMap_map, ← g4]
   have hc: ∀ p,p∈ps→(p.2.den ρ).cells.toList=aI ρ p.2.atoms:=fun p hp=>by
    obtain⟨e,he⟩:=g3 p hp
    rw[gP h1 (RK.of_noUn he).1]
   clear g2 g4 hall hlen g1 g3 hes hpa
   induction ps with
   | nil=>rfl
   | cons p r ih=>rw[List.flatMap_cons,List.flatMap_cons,hc p (List.mem_cons_self ..),ih fun q hq=>hc q (List.mem_cons_of_mem _ hq)]
  rw[← hfl]
  exact Great.fill_whole hk _ _ hall (by rw[hlen];simp)
theorem Bq (hs:HS w0 Wr ρ h n w) (hm: ∀ i,n i→i < m) {k:RK} {es:List k.ty} {q T:Nat} (hq:es.length=q) :
  Did w0 Wr ρ h n m w ⟨[], .c (.s (.hs m)),[.vec true k es],[]⟩ (.slice (some ⟨w.heap.size,0,none⟩) q q) (w.alloc (.cells (k.flat es).toArray T)):=by
 subst hq
 refine⟨upd ρ m (.slice (some ⟨w.heap.size,0,none⟩) es.length es.length),fF _ hm _,(dE ρ m _).symm,fun ρ' ha=>ha m (.inr ⟨Nat.le_refl _,by simp⟩),?_,But.of (fW _),fun i x h1 h2 hx=> .inl ?_⟩
 ·refine hs.new hm (fW _) rfl ⟨some ⟨w.heap.size,0,none⟩,es.length,rfl,Nat.le_refl _,w.heap.size,0,rfl,by simp,?_,fun _ j hj=>?_⟩ trivial (fun x hx=>by simp[bK] at hx;omega)
  ·intro j v hv
   simp only[Nat.zero_add]
   rw[World.cell?_alloc_new]
   simpa using hv
  ·simp only[Nat.zero_add]
   rw[World.cell?_alloc_new]
   constructor
   ·have:j < (k.flat es).length:=by rw[RK.flat_length];exact hj
    simp[this]
   ·simp[World.frozen?, -World.alloc_eq,World.alloc]
 ·simp only[List.length_cons,List.length_nil] at h2
  have:i=m:=by omega
  subst this
  rw[dE] at hx
  simp[bK] at hx;omega
end
section
variable {P:Program} {K:Cx} {w0:World} {Wr:jH} {ρ:Rho} {h:bT} {n:Ids} {m:Nat} {w:World}
theorem RK.cast_eq {k k':RK} {l:List k.ty} {m:List k'.ty} (h:k.cast k' l=some m): ∃ e:k=k',e ▸ l=m:=by
 cases k <;> cases k' <;> simp only[RK.cast] at h
 case int.int a b=>
  split at h
  ·rename_i e
   subst e
   simp only[Option.some.injEq] at h
   exact⟨rfl,h⟩
  ·simp at h
 case row.row a b=>
  split at h
  ·rename_i e
   subst e
   simp only[Option.some.injEq] at h
   exact⟨rfl,h⟩
  ·simp at h
 all_goals first
  |(simp only[Option.some.injEq] at h;exact⟨rfl,h⟩)
  | simp at h
theorem ai7: ∀ (l:List AK) (x:r6 l),jD (ad1 l x)=true
 | [],_=>rfl
 | k :: r,x=>by
  have:=ai7 r x.2
  cases k <;> exact this
theorem RK.at_noUn (k:RK) (x:k.ty):jD (k.at x)=true:=by
 cases k
 case row l=>exact ai7 l x
 all_goals rfl
theorem RK.flat_one (k:RK) (l:List k.ty): ∀ u,u∈k.flat l→u.oneCell'=true:=by
 intro u hu
 simp only[RK.flat,List.mem_flatMap] at hu
 obtain⟨x,_,hx⟩:=hu
 rw[k.at_flats x _ vC] at hx
 exact uX (ρ:=vC) (fun _=>rfl) (k.at_noUn x) u hx
theorem RK.flat_append (k:RK) (l m:List k.ty):k.flat (l++m)=k.flat l++k.flat m:=by simp[RK.flat]
theorem jT {b o:Nat} {cs:List Value} (hc:w.rangeAt b o cs): ∀ j u,cs[j]? =some u→w.cell? ((⟨b,o,none⟩:Addr).add j)=some u:=fun j u hu=>by
 rw[Addr.add_mid];exact hc j u hu
theorem RK.flat_take' (k:RK): ∀ (l:List k.ty) (i:Nat),k.flat (l.take i)=(k.flat l).take (i*k.esz)
 | [],i=>by simp[RK.flat]
 | x :: l,0=>by simp[RK.flat]
 | x :: l,i+1=>by
  have hc: ∀ r:List k.ty,k.flat (x :: r)=aI (fun _=>undef) (k.at x)++k.flat r:=fun r=>rfl
  have hl:(aI (fun _=>undef) (k.at x)).length=k.esz:=by rw[flats_length,k.at_sizes]
  rw[List.take_succ_cons,hc,hc,RK.flat_take' k l i,List.take_append,hl,List.take_of_length_le (l:=aI _ _) (by rw[hl,Nat.add_mul];omega)]
  have:(i+1)*k.esz - k.esz=i*k.esz:=by rw[Nat.add_mul];omega
  rw[this]
theorem RK.flat_drop' (k:RK): ∀ (l:List k.ty) (i:Nat),k.flat (l.drop i)=(k.flat l).drop (i*k.esz)
 | [],i=>by simp[RK.flat]
 | x :: l,0=>by simp[RK.flat]
 | x :: l,i+1=>by
  have hc: ∀ r:List k.ty,k.flat (x :: r)=aI (fun _=>undef) (k.at x)++k.flat r:=fun r=>rfl
  have hl:(aI (fun _=>undef) (k.at x)).length=k.esz:=by rw[flats_length,k.at_sizes]
  rw[List.drop_succ_cons,hc,RK.flat_drop' k l i,List.drop_append,hl,List.drop_eq_nil_of_le (as:=aI _ _) (by rw[hl,Nat.add_mul];omega)]
  have:(i+1)*k.esz - k.esz=i*k.esz:=by rw[Nat.add_mul];omega
  rw[this];rfl
theorem anF {k:RK} (ρ:Rho): ∀ {n:Nat} {l:List At} {m:List k.ty},aqD k n l=some m→m.length=n∧n*k.esz≤bO l∧k.flat m=(aI ρ l).take (n*k.esz)
 | 0,l,m,e=>by
  simp only[aqD,Option.some.injEq] at e
  subst e
  simp[RK.flat]
 | n+1,l,m,e=>by
  simp only[aqD] at e
  split at e
  ·rename_i p q hp hq
   split at e
   ·rename_i x r hx hr
    simp only[Option.some.injEq] at e
    subst e
    obtain⟨i1,i2,i3⟩:=anF ρ hr
    obtain⟨t1,t2⟩:=mD ρ _ _ _ _ hp
    obtain⟨d1,d2⟩:=fX ρ _ _ _ _ hq
    have hxf:=RK.of_flats hx ρ
    rw[eF,t2] at hxf
    have hsz:bO q=bO l - k.esz:=by
     have:=congrArg List.length d2
     rwa [flats_length,List.length_drop,flats_length] at this
    refine⟨by simp[i1],by rw[Nat.add_mul];omega,?_⟩
    have hc:k.flat (x :: r)=aI (fun _=>undef) (k.at x)++k.flat r:=rfl
    rw[hc,i3,d2,k.at_flats x _ ρ, ← hxf,Nat.add_mul,Nat.one_mul,Nat.add_comm (n*k.esz),List.take_add]
   ·cases e
  ·cases e
theorem mB (hA:K.A=aA) (hs:HS w0 Wr ρ h n w) {k:RK} {x:Sc} {ob:List Bool} {l:List k.ty} (e:BC K h k x=some (ob,l)) (ho: ∀ b,b∈ob→b=true) :
  (x.den ρ= .slice none 0 0∧l=[])∨ ∃ b o c,x.den ρ= .slice (some ⟨b,o,none⟩) l.length c∧w.rangeAt b o (k.flat l):=by
 unfold BC at e
 split at e
 ·rename_i id
  split at e
  ·rename_i own k' l' hl
   split at e
   ·rename_i m' hm
    obtain⟨rfl,hm⟩:=RK.cast_eq hm
    simp only at hm
    subst hm
    simp only[Option.some.injEq,Prod.mk.injEq] at e
    obtain⟨_,rfl⟩:=e
    obtain⟨_,⟨base,cap,h2,h3,h4⟩,_⟩:=hs.ok _ _ hl
    cases base with
    | none=>obtain⟨rfl,rfl⟩:=h4;exact .inl ⟨h2,rfl⟩
    | some a=>obtain⟨b,o,rfl,h5,h7,_⟩:=h4;exact .inr ⟨b,o,cap,h2,h7⟩
   ·simp at e
  ·simp at e
 ·rename_i id z lo hi
  split at e
  ·rename_i own k' l' hl
   split at e
   ·rename_i m' hm
    obtain⟨rfl,hm⟩:=RK.cast_eq hm
    simp only at hm
    subst hm
    split at e
    ·rename_i hz
     simp only[beq_iff_eq] at hz
     subst hz
     simp only[Option.some.injEq,Prod.mk.injEq] at e
     obtain⟨rfl,rfl⟩:=e
     simp only[List.forall_mem_cons,hA,aA,aP,decide_eq_true_eq] at ho
     obtain⟨g1,g2,g3,_⟩:=ho
     obtain⟨_,⟨base,cap,h2,h3,h4⟩,_⟩:=hs.ok _ _ hl
     have hd:(Sc.hw id k'.esz lo hi).den ρ= .slice (if cap=lo.toNat then base else base.map (·.add (lo.toNat*k'.esz))) (hi.toNat - lo.toNat) (cap - lo.toNat):=by simp only[Sc.den,h2]
     have hlen:(aA.sub l' lo hi).length=hi.toNat - lo.toNat:=by simp only[aA,List.length_drop,List.length_take];omega
     rw[hA]
     cases base with
     | none=>
      obtain⟨rfl,rfl⟩:=h4
      simp only[List.length_nil] at g3
      refine .inl ⟨?_,by simp[aA]⟩
      rw[hd]
      have e1:lo.toNat=0:=by omega
      have e2:hi.toNat=0:=by omega
      simp[e1,e2]
     | some a=>
      obtain⟨b,o,rfl,h5,h7,_⟩:=h4
      by_cases hc:cap=lo.toNat
      ·refine .inr ⟨b,o,cap - lo.toNat,by rw[hd,if_pos hc,hlen],?_⟩
       have:aA.sub l' lo hi=[]:=List.eq_nil_of_length_eq_zero (by rw[hlen];omega)
       rw[this]
       intro q v hv;simp[RK.flat] at hv
      ·refine .inr ⟨b,o+lo.toNat*k'.esz,cap - lo.toNat,by rw[hd,if_neg hc,hlen];simp[Addr.add_mid],?_⟩
       have:k'.flat (aA.sub l' lo hi)=((k'.flat l').take (hi.toNat*k'.esz)).drop (lo.toNat*k'.esz):=by
        simp only[aA];rw[RK.flat_drop',RK.flat_take']
       rw[this]
       intro q v hv
       have:=h7 (lo.toNat*k'.esz+q) v (by
        rw[List.getElem?_drop,List.getElem?_take] at hv
        split at hv
        ·exact hv
        ·simp at hv)
       rw[← Nat.add_assoc] at this
       exact this
    ·simp at e
   ·simp at e
  ·simp at e
 ·simp only[Option.some.injEq,Prod.mk.injEq] at e
  obtain⟨_,rfl⟩:=e
  exact .inl ⟨rfl,rfl⟩
 ·rename_i id off z lo hi cap
  split at e
  ·rename_i own l' hl
   split at e
   ·rename_i q hq
    split at e
    ·rename_i m hm
     split at e
     ·rename_i hz
      have hz:z=k.esz:=by simpa using hz
      subst hz
      simp only[Option.some.injEq,Prod.mk.injEq] at e
      obtain⟨rfl,rfl⟩:=e
      simp only[List.forall_mem_cons,hA,aA,aP,decide_eq_true_eq] at ho
      obtain⟨g1,g2,g3,_⟩:=ho
      obtain⟨b,o,h2,h3,h4,_⟩:=hs.fix hl
      obtain⟨m1,m2,m3⟩:=anF ρ hm
      obtain⟨d1,d2⟩:=fX ρ _ _ _ _ hq
      have hlen:(aA.sub m lo hi).length=hi.toNat - lo.toNat:=by simp only[aA,List.length_drop,List.length_take];omega
      rw[hA]
      have hd:(Sc.ha id off k.esz lo hi cap).den ρ= .slice (some ⟨b,o+(if cap=lo.toNat then off else off+lo.toNat*k.esz),none⟩) (hi.toNat - lo.toNat) (cap - lo.toNat):=by
       simp only[Sc.den,h2]
       split <;> simp[Addr.add_mid]
      refine .inr ⟨b,_,cap - lo.toNat,by rw[hd,hlen],?_⟩
      by_cases hc:cap=lo.toNat
      ·have:aA.sub m lo hi=[]:=List.eq_nil_of_length_eq_zero (by rw[hlen];omega)
       rw[this]
       intro q v hv;simp[RK.flat] at hv
      ·rw[if_neg hc]
       have hf:k.flat (aA.sub m lo hi)=((k.flat m).take (hi.toNat*k.esz)).drop (lo.toNat*k.esz):=by
        simp only[aA];rw[RK.flat_drop',RK.flat_take']
       rw[hf,m3,d2]
       intro q v hv
       have:=h4 (off+lo.toNat*k.esz+q) v (by
        rw[List.getElem?_drop,List.getElem?_take] at hv
        split at hv
        ·rw[List.getElem?_take] at hv
         split at hv
         ·rw[List.getElem?_drop] at hv
          rw[Nat.add_assoc];exact hv
         ·simp at hv
        ·simp at hv)
       rw[show o+(off+lo.toNat*k.esz)+q=o+(off+lo.toNat*k.esz+q) from by omega]
       exact this
     ·simp at e
    ·simp at e
   ·simp at e
  ·simp at e
 ·simp at e
theorem rE (hA:K.A=aA) (hs:HS w0 Wr ρ h n w) {k:RK} {x:Sc} {ob:List Bool} {l:List k.ty} (e:BC K h k x=some (ob,l)) (ho: ∀ b,b∈ob→b=true) {tx e':Nat} (hk:P.underlying tx=some (.slice e')) :
  Src P k.esz tx (x.den ρ) l.length (k.flat l) w:=by
 rcases mB hA hs e ho with ⟨h1,rfl⟩ | ⟨b,o,c,h1,h2⟩
 ·rw[h1];exact Src.ofNil w hk 0
 ·rw[h1]
  exact Src.ofSlice w hk _ _ _ _ (by rw[RK.flat_length,Nat.mul_comm]) (jT h2) (RK.flat_one k l)
theorem HS.goneW (hs:HS w0 Wr ρ h n w) {w':World} {id b:Nat} {k:Blk} (hl:aN h id=some k) (hown:k.own=true) (hbo:bK (ρ id)=some b)
  (hblk: ∀ x,x≠b→x < w.heap.size→w'.heap[x]? =w.heap[x]?) (hsz:w.heap.size≤w'.heap.size) (hos:w'.os=w.os) (htape:w'.tape=w.tape) (hout:w'.output=w.output∧w.drawn≤w'.drawn):HS w0 Wr ρ (Ei h id .gone) n w' where
 one:=hs.one
 ok i c hi:=by
  rw[cO] at hi
  split at hi
  ·rename_i he
   subst he
   rw[hl] at hi
   simp only[Option.map_some,Option.some.injEq] at hi
   subst hi
   refine⟨(hs.ok i k hl).1,fun x hx=>?_,trivial⟩
   have:=Blk.block (hs.ok i k hl).2.1 hx
   omega
  ·rename_i hne
   obtain⟨h1,h2,h3⟩:=hs.ok i c hi
   by_cases hlv:c.live=true
   ·refine⟨h1,Blk.ok_of_block hsz (fun x hx=>hblk x (fun e=>?_) (Blk.block h2 hx)) h2,h3⟩
    subst e
    exact hs.sep id k i c hl hi (fun e=>hne e.symm) hown hlv x hbo hx
   ·cases c with
    | gone=>exact⟨h1,fun x hx=>by have:x < w.heap.size:=h2 x hx;omega,h3⟩
    | fix=>exact absurd rfl hlv
    | vec=>exact absurd rfl hlv
 sep i c j d hi hj hij ho hlv x hx:=by
  rw[cO] at hi hj
  split at hi
  ·rename_i he;subst he;rw[hl] at hi;simp only[Option.map_some,Option.some.injEq] at hi;subst hi;cases ho
  ·split at hj
   ·rename_i he;subst he;rw[hl] at hj;simp only[Option.map_some,Option.some.injEq] at hj;subst hj;cases hlv
   ·exact hs.sep i c j d hi hj hij ho hlv x hx
 wr i c x hi ho hx:=by
  rw[cO] at hi
  split at hi
  ·rename_i he;subst he;rw[hl] at hi;simp only[Option.map_some,Option.some.injEq] at hi;subst hi;cases ho
  ·exact hs.wr i c x hi ho hx
 org i c x hi ho hx:=by
  rw[cO] at hi
  split at hi
  ·rename_i he;subst he;rw[hl] at hi;simp only[Option.map_some,Option.some.injEq] at hi;subst hi;cases ho
  ·exact hs.org i c x hi ho hx
 frame x hx hn:=by
  have hne:x≠b:=fun e=>by
   subst e
   rcases hs.wr id k x hl hown hbo with h1 | h1
   ·omega
   ·exact hn h1
  rw[hblk x hne (Nat.lt_of_lt_of_le hx hs.size)]
  exact hs.frame x hx hn
 os:=hos.trans hs.os
 tape:=htape.trans hs.tape
 output:=hout.1.trans hs.output
 drawn:=Nat.le_trans hs.drawn hout.2
 size:=Nat.le_trans hs.size hsz
 ag:=hs.ag
 inn:=hs.inn
theorem HS.goneN (hs:HS w0 Wr ρ h n w) {w':World} {id:Nat} {k:Blk} (hl:aN h id=some k) (hbo:bK (ρ id)=none) (hb:Low w.heap.size w w'):HS w0 Wr ρ (Ei h id .gone) n w' where
 one:=hs.one
 ok i c hi:=by
  rw[cO] at hi
  split at hi
  ·rename_i he
   subst he
   rw[hl] at hi
   simp only[Option.map_some,Option.some.injEq] at hi
   subst hi
   exact⟨(hs.ok i k hl).1,(fun x hx=>by rw[hbo] at hx;cases hx),trivial⟩
  ·exact(hs.below hb).ok i c hi
 sep i c j d hi hj hij ho hlv x hx:=by
  rw[cO] at hi hj
  split at hi
  ·rename_i he;subst he;rw[hl] at hi;simp only[Option.map_some,Option.some.injEq] at hi;subst hi;cases ho
  ·split at hj
   ·rename_i he;subst he;rw[hl] at hj;simp only[Option.map_some,Option.some.injEq] at hj;subst hj;cases hlv
   ·exact hs.sep i c j d hi hj hij ho hlv x hx
 wr i c x hi ho hx:=by
  rw[cO] at hi
  split at hi
  ·rename_i he;subst he;rw[hl] at hi;simp only[Option.map_some,Option.some.injEq] at hi;subst hi;cases ho
  ·exact hs.wr i c x hi ho hx
 org i c x hi ho hx:=by
  rw[cO] at hi
  split at hi
  ·rename_i he;subst he;rw[hl] at hi;simp only[Option.map_some,Option.some.injEq] at hi;subst hi;cases ho
  ·exact hs.org i c x hi ho hx
 frame:=(hs.below hb).frame
 os:=(hs.below hb).os
 tape:=(hs.below hb).tape
 output:=(hs.below hb).output
 drawn:=(hs.below hb).drawn
 size:=(hs.below hb).size
 ag:=hs.ag
 inn:=hs.inn
theorem r9 (z:Array Value) (c:Nat):(Builtin.zeroCells z c).size=c*z.size:=by simp[Builtin.zeroCells]
theorem wW {k:RK} {es:List k.ty} {cs:Array Value} {t c:Nat} {w:World} {ρ':Rho} (h1:cs.size=k.esz*c) (h2:es.length≤c) (h3:cs.toList.take (k.flat es).length=k.flat es) :
  (Blk.vec true k es).ok (w.alloc (.cells cs t)) (.slice (some ⟨w.heap.size,0,none⟩) es.length c) ρ':=by
 refine⟨some ⟨w.heap.size,0,none⟩,c,rfl,h2,w.heap.size,0,rfl,by simp,?_,fun _ j hj=>?_⟩
 ·intro j v hv
  simp only[Nat.zero_add]
  rw[World.cell?_alloc_new]
  rw[← h3,List.getElem?_take] at hv
  split at hv
  ·simpa using hv
  ·simp at hv
 ·simp only[Nat.zero_add]
  rw[World.cell?_alloc_new]
  constructor
  ·have:j < cs.size:=by rw[h1];exact hj
   simp[this]
  ·simp[World.frozen?, -World.alloc_eq,World.alloc]
theorem AO:Low w.heap.size w w.drew:=⟨rfl,rfl,rfl,Nat.le_refl _,fun _ _=>rfl,Nat.le_succ _⟩
theorem oY (o:Obj):Low w.heap.size w (w.drew.alloc o):=(AO.alloc (Nat.le_refl _) o)
theorem kA (hs:HS w0 Wr ρ h n w) (hm: ∀ i,n i→i < m) {w':World} {h':bT} {wr:bT} (hall:oS h wr=h') (hs':HS w0 Wr ρ h' n w') {k:RK} {es:List k.ty} {v:Value} {ob:List Bool} (hv:v.oneCell'=true)
  (hk:(Blk.vec true k es).ok w' v (upd ρ m v)) (hb:But (xB ρ wr) w w')
  (hnew: ∀ x,bK v=some x→(w.heap.size≤x∨xB ρ wr x)∧(∀ j c,aN h' j=some c→c.live=true→bK (ρ j)≠some x)∧(w0.heap.size≤x∨Wr.wr x)) :
  Did w0 Wr ρ h n m w ⟨ob, .c (.s (.hs m)),[.vec true k es],wr⟩ v w':=by
 refine⟨upd ρ m v,fF _ hm _,(dE ρ m v).symm,fun ρ' ha=>ha m (.inr ⟨Nat.le_refl _,by simp⟩),?_,hb,fun i x h1 h2 hx=>?_⟩
 ·show HS w0 Wr _ ((m, .vec true k es) :: oS h wr) _ w'
  rw[hall]
  exact hs'.newG hm hv hk trivial fun x hx=>(hnew x hx).2
 ·simp only[List.length_cons,List.length_nil] at h2
  have:i=m:=by omega
  subst this
  rw[dE] at hx
  rcases(hnew x hx).1 with h | h
  ·exact .inl h
  ·exact .inr (.inl h)
theorem FK {len c need by':Nat} (h1:c < need) (h2:need≤1000000) (h3:by'≤65536):Builtin.nextslicecap need c*by'≤281474976710656:=by
 have hg: ∀ (r a:Nat),a≤need→Builtin.growBy need r a≤2*need+200:=by
  intro r
  induction r with
  | zero=>intro a ha;simp only[Builtin.growBy];omega
  | succ r ih=>
   intro a ha
   simp only[Builtin.growBy]
   split
   ·omega
   ·by_cases hle:a+(a+768) / 4≤need
    ·exact ih _ hle
    ·cases r with
     | zero=>simp only[Builtin.growBy];omega
     | succ r=>
      simp only[Builtin.growBy]
      rw[if_pos (by omega)]
      omega
 have hn:Builtin.nextslicecap need c≤2*need+512:=by
  unfold Builtin.nextslicecap
  split
  ·omega
  ·split
   ·omega
   ·have:=hg 4 c (by omega);omega
 calc Builtin.nextslicecap need c*by'≤(2*need+512)*65536:=Nat.mul_le_mul hn h3
  _≤281474976710656:=by omega
theorem mM {t:Nat} {i:TI} {el esz:Nat} {k:RK} (ty:fP P t i) (hel:i.elem=some (el,esz,k)):P.underlying t=some (.slice el)∧ ∃ ie z,P.info? el=some ie∧ie.zero=some z∧ie.size=k.esz∧esz=k.esz∧z.cells.toList=aI vC (k.at (k.dflt aA))∧ie.bytes≤65536:=by
 obtain⟨hu,hsz,hz,hzero,hby,hk,hk2⟩:=ty.elem _ _ _ hel
 cases hie:P.info? el with
 | none=>simp[hie] at hsz
 | some ie=>
  simp only[hie,Option.map_some,Option.some.injEq,Option.bind_some,decide_eq_true_eq] at hsz hzero hby
  cases hzz:ie.zero with
  | none=>simp[hzz] at hzero
  | some z=>
   simp only[hzz,Option.map_some,Option.some.injEq] at hzero
   exact⟨hu,ie,z,rfl,hzz,by omega,hz,hzero,hby⟩
theorem IG (hA:K.A=aA) (hT:TOK P K.T) (hs:HS w0 Wr ρ h n w) (hm: ∀ i,n i→i < m) {ts:List Nat} {s x:Sc} {r:FR} (e:I7 K h m ts s x=some r) (hob: ∀ b,b∈r.ob→b=true) (ty:Nat) :
  ∃ v w',(Builtin.append_ ts.toArray ty #[s.den ρ,x.den ρ]).run P w= .ok v w'∧Did w0 Wr ρ h n m w r v w':=by
 unfold I7 at e
 split at e
 ·rename_i t u
  split at e
  ·rename_i i j ht hu
   split at e
   ·rename_i el esz k el' esz' k' hel hel'
    split at e
    ·rename_i hee
     simp only[beq_iff_eq] at hee
     subst hee
     obtain⟨ut,ie,z,hie,hz,hsz,_,hzc,hby⟩:=mM (hT _ _ ht) hel
     obtain⟨uu,_⟩:=mM (hT _ _ hu) hel'
     have hzs:z.cells.size=k.esz:=by rw[← Array.length_toList,hzc,flats_length,k.at_sizes]
     split at e
     ·rename_i ob ms hrd
      have grow: ∀ (base:Option Addr) (len c:Nat) (es:List k.ty) (wr:bT) (ob':List Bool),es.length=len→len≤c→(base=none→es=[])→(∀ a,base=some a→ ∃ b o,a=⟨b,o,none⟩∧w.rangeAt b o (k.flat es))→
        c < len+ms.length→len+ms.length≤1000000→(∀ b,b∈ob→b=true)→(∀ w',Low w.heap.size w w'→HS w0 Wr ρ (oS h wr) n w')→
        ∃ v w',(Builtin.append_ #[t,u] ty #[.slice base len c,x.den ρ]).run P w= .ok v w'∧Did w0 Wr ρ h n m w ⟨ob', .c (.s (.hs m)),[.vec true k (es++ms)],wr⟩ v w':=by
       intro base len c es wr ob' hel hlc hnone hsome hlt hmax hob' hall
       have hsrc:=rE (P:=P) hA hs hrd hob' uu
       rw[← hsz] at hsrc
       have hfl:(k.flat es).length=len*ie.size:=by rw[RK.flat_length,hel,hsz,Nat.mul_comm]
       have hold:(Builtin.firstCells ie.size len (.slice base len c)).run P w.drew= .ok (k.flat es).toArray w.drew:=by
        cases base with
        | none=>
         have:=hnone rfl
         subst this
         simp only[List.length_nil] at hel
         subst hel
         simpa [RK.flat] using run_firstCells_none w.drew ie.size 0 0 c
        | some a=>
         obtain⟨b,o,rfl,hr⟩:=hsome a rfl
         exact run_firstCells_some w.drew ie.size len _ len c _ hfl (fun j u hu=>by simpa using jT hr j u hu)
       have hrun:=run_append_grow_src w t u ty el ie z ut hie hz base len c (k.flat es) hold (x.den ρ) ms.length (k.flat ms) hsrc hlt (by omega) (FK (len:=len) hlt hmax hby)
       have hge:=grownCap_ge w (len+ms.length) c el
       refine⟨_,_,hrun,?_⟩
       have hb:=oY (w:=w) (.cells ((k.flat es++k.flat ms).toArray++Builtin.zeroCells z.cells (grownCap w (len+ms.length) c el - (len+ms.length))) el)
       refine kA hs hm rfl (hall _ hb) rfl ?_ (But.of hb) (fun y hy=>?_)
       ·have:(es++ms).length=len+ms.length:=by rw[List.length_append,hel]
        rw[← this]
        refine wW (w:=w.drew) ?_ (by rw[this];exact hge) ?_
        ·have h1:(k.flat es++k.flat ms).length=(len+ms.length)*k.esz:=by
          rw[List.length_append,hfl,RK.flat_length,hsz,Nat.add_mul,Nat.mul_comm k.esz]
         rw[this,Array.size_append,r9,hzs,List.size_toArray,h1, ← Nat.add_mul,Nat.mul_comm]
         congr 1;omega
        ·rw[RK.flat_append,Array.toList_append,List.take_append_of_le_length (by simp),List.take_of_length_le (by simp)]
       ·simp only[bK,Option.some.injEq] at hy
        subst hy
        refine⟨.inl (Nat.le_refl _),fun j c hj _ hxj=>?_, .inl hs.size⟩
        have:=Blk.block ((hall w (Low.refl _ _)).ok j c hj).2.1 hxj
        exact Nat.lt_irrefl _ this
      split at e
      ·
        simp only[Option.some.injEq] at e
        subst e
        rw[hA] at hob
        simp only[List.forall_mem_cons,aA,aP,decide_eq_true_eq] at hob
        obtain⟨g1,g2⟩:=hob
        cases ms with
        | nil=>
         have hsrc:=rE (P:=P) hA hs hrd g2 uu
         rw[← hsz] at hsrc
         refine⟨.slice none 0 0,w,?_,?_⟩
         ·have:=run_append_nothing w t u ty el ie ut hie none 0 0 (Nat.le_refl _) (x.den ρ) (by simpa [RK.flat] using hsrc)
          exact this
         ·refine kA hs hm (wr:=[]) rfl hs rfl ⟨none,0,rfl,Nat.le_refl _,rfl,rfl⟩ (But.of (Low.refl _ _)) (fun y hy=>by cases hy)
        | cons a r=>
         have:=grow none 0 0 [] [] (aA.cmp .leq (aA.len (a :: r)) 1000000 :: ob) rfl (Nat.le_refl _) (fun _=>rfl) (fun _ h=>by cases h) (by simp) (by have g1':(((a :: r).length:Nat):Int)≤1000000:=g1;omega) g2 (fun w' hb=>hs.below hb)
         rw[hA]
         exact this
      ·
        rename_i id
        split at e
        ·simp at e
        ·split at e
         ·rename_i k2 l hl
          split at e
          ·rename_i q hq
           obtain⟨rfl,hq⟩:=RK.cast_eq hq
           simp only at hq
           subst hq
           simp only[Option.some.injEq] at e
           subst e
           rw[hA] at hob
           simp only[List.forall_mem_cons,aA,aP,decide_eq_true_eq] at hob
           obtain⟨g1,g2⟩:=hob
           obtain⟨hid,⟨base,cap,h2,h3,h4⟩,_⟩:=hs.ok _ _ hl
           have hsrc:=rE (P:=P) hA hs hrd g2 uu
           rw[← hsz] at hsrc
           show ∃ v w',(Builtin.append_ #[t,u] ty #[ρ id,x.den ρ]).run P w= .ok v w'∧_
           rw[h2,hA]
           have hgone: ∀ w',Low w.heap.size w w'→HS w0 Wr ρ (oS h [(id, .gone)]) n w':=fun w' hb=>by
            show HS w0 Wr ρ (Ei h id .gone) n w'
            cases base with
            | none=>exact hs.goneN hl (by rw[h2];rfl) hb
            | some a=>
             obtain⟨b,o,rfl,h5,_⟩:=h4
             exact hs.goneW (b:=b) hl rfl (by rw[h2];rfl) (fun x _ hx=>hb.block x hx) hb.size hb.os hb.tape ⟨hb.output,hb.drawn⟩
           by_cases hfit:l.length+ms.length≤cap
           ·
             cases base with
             | none=>
              obtain⟨rfl,rfl⟩:=h4
              have hms:ms=[]:=List.eq_nil_of_length_eq_zero (by simp only[List.length_nil] at hfit;omega)
              subst hms
              refine⟨.slice none 0 0,w,?_,?_⟩
              ·exact run_append_nothing w t u ty el ie ut hie none 0 0 (Nat.le_refl _) (x.den ρ) (by simpa [RK.flat] using hsrc)
              ·refine kA hs hm (wr:=[(id, .gone)]) rfl (hgone w (Low.refl _ _)) rfl ⟨none,0,rfl,Nat.le_refl _,rfl,rfl⟩ (But.of (Low.refl _ _)) (fun y hy=>by cases hy)
             | some a=>
              obtain⟨b,o,rfl,h5,h6,h7⟩:=h4
              have hth:=h7 rfl
              have hin: ∀ j,j < (k2.flat ms).length→l.length*ie.size+j < k2.esz*cap:=fun j hj=>by
               rw[RK.flat_length] at hj
               have h8:=Nat.mul_le_mul_left k2.esz hfit
               rw[Nat.mul_add] at h8
               rw[hsz,Nat.mul_comm]
               omega
              have hrun:=run_append_room_src w t u ty el ie ut hie b o l.length cap (x.den ρ) ms.length (k2.flat ms) hsrc hfit
               (fun j hj=>by have:=(hth _ (hin j hj)).1;rwa [← Nat.add_assoc] at this) (fun j hj=>by have:=(hth _ (hin j hj)).2;rwa [← Nat.add_assoc] at this)
              refine⟨_,_,hrun,?_⟩
              obtain⟨e1,e2,e3,e4⟩:=cW b (k2.flat ms) (o+l.length*ie.size) w
              have hfar: ∀ x,x≠b→(w.setCells b (o+l.length*ie.size) (k2.flat ms)).heap[x]? =w.heap[x]? :=fun x hx=>dS _ _ x hx
              refine kA hs hm (wr:=[(id, .gone)]) rfl (hs.goneW (b:=b) hl rfl (by rw[h2];rfl) (fun x hx _=>hfar x hx) (Nat.le_of_eq e4.symm) e1 e2 ⟨e3.1,Nat.le_of_eq e3.2.symm⟩) rfl ?_ ⟨e1,e2,e3.1,Nat.le_of_eq e3.2.symm,Nat.le_of_eq e4.symm,fun x _ hn=>hfar x fun e=>hn ⟨id, .gone,List.mem_cons_self ..,by rw[h2,e];rfl⟩⟩ (fun y hy=>?_)
              ·refine⟨some ⟨b,o,none⟩,cap,by rw[show aA.app l ms=l++ms from rfl,List.length_append],by rw[show aA.app l ms=l++ms from rfl,List.length_append];exact hfit,b,o,rfl,by rw[e4];exact h5,?_,fun _=>World.there_setCells hth b _ _⟩
               rw[show aA.app l ms=l++ms from rfl,RK.flat_append]
               have hll:(k2.flat l).length=l.length*ie.size:=by rw[RK.flat_length,hsz,Nat.mul_comm]
               intro j v hv
               by_cases hj:j < (k2.flat l).length
               ·rw[List.getElem?_append_left hj] at hv
                rw[World.cell?_setCells_out b _ _ w ⟨b,o+j,none⟩ (fun _ _=> .inl (by simp;omega))]
                exact h6 j v hv
               ·rw[List.getElem?_append_right (by omega)] at hv
                have hlt:j - (k2.flat l).length < (k2.flat ms).length:=by
                 rcases Nat.lt_or_ge (j - (k2.flat l).length) (k2.flat ms).length with h | h
                 ·exact h
                 ·rw[List.getElem?_eq_none h] at hv;simp at hv
                have:=World.cell?_setCells_in b (k2.flat ms) (o+l.length*ie.size) w (fun j hj=>by have:=(hth _ (hin j hj)).1;rwa [← Nat.add_assoc] at this) (j - (k2.flat l).length) hlt
                rw[show o+j=o+l.length*ie.size+(j - (k2.flat l).length) from by omega,this, ← hv]
                simp[hlt]
              ·simp only[bK,Option.some.injEq] at hy
               subst hy
               refine⟨.inr ⟨id, .gone,List.mem_cons_self ..,by rw[h2];rfl⟩,fun j c hj hlv hxj=>?_,?_⟩
               ·have hj:aN (Ei h id .gone) j=some c:=hj
                rw[cO] at hj
                split at hj
                ·rename_i he;subst he;rw[hl] at hj;simp only[Option.map_some,Option.some.injEq] at hj;subst hj;cases hlv
                ·rename_i hne
                 exact hs.sep id _ j c hl hj (fun e=>hne e.symm) rfl hlv b (by rw[h2];rfl) hxj
               ·exact hs.wr id _ b hl rfl (by rw[h2];rfl)
           ·refine grow base l.length cap l [(id, .gone)] _ rfl h3 (fun hb=>by subst hb;exact h4.1) (fun a ha=>?_) (by omega) (by have:=g1;omega) g2 hgone
            subst ha
            obtain⟨b,o,rfl,h5,h6,h7⟩:=h4
            exact⟨b,o,rfl,h6⟩
          ·simp at e
         ·simp at e
      ·simp at e
     ·simp at e
    ·simp at e
   ·simp at e
  ·simp at e
 ·simp at e
theorem zY (z:Array Value) (k:RK) (d:k.ty) (hz:z.toList=aI vC (k.at d)) (hk:0 < k.esz): ∀ c:Nat,(madeCells z (c*k.esz)).toList=k.flat (List.replicate c d)
 | 0=>by simp[madeCells,RK.flat]
 | c+1=>by
  have ih:=zY z k d hz hk c
  have hzs:z.size=k.esz:=by rw[← Array.length_toList,hz,flats_length,k.at_sizes]
  have h1:List.replicate (c+1) d=List.replicate c d++[d]:=by rw[List.replicate_succ']
  rw[h1,RK.flat_append, ← ih]
  simp only[madeCells,Array.toList_map,Array.toList_range]
  rw[Nat.add_mul,Nat.one_mul,List.range_add,List.map_append,List.map_map]
  congr 1
  have h2:k.flat [d]=z.toList:=by rw[hz];simp only[RK.flat,List.flatMap_cons,List.flatMap_nil,List.append_nil];exact k.at_flats d _ _
  rw[h2]
  apply List.ext_getElem
  ·simp[hzs]
  ·intro i h3 h4
   have h5:i < z.size:=by simpa using h4
   have h6:(c*k.esz+i) % z.size=i:=by
    rw[hzs,Nat.mul_comm,Nat.mul_add_mod,Nat.mod_eq_of_lt (by omega)]
   simp only[List.getElem_map,Function.comp,List.getElem_range,h6,Array.getElem_toList]
   rw[getElem!_pos z i h5]
theorem FW (hA:K.A=aA) (hT:TOK P K.T) (hs:HS w0 Wr ρ h n w) (hm: ∀ i,n i→i < m) {t:Nat} {l c:Sc} {r:FR} (e:CF K m t l c=some r) (hob: ∀ b,b∈r.ob→b=true) :
  ∃ v w',(Instr.makeSlice t (l.den ρ) (c.den ρ)).run P w= .ok v w'∧Did w0 Wr ρ h n m w r v w':=by
 unfold CF at e
 split at e
 ·rename_i i ht
  split at e
  ·rename_i el esz k b1 x b2 y hel hl hc
   simp only[Option.some.injEq] at e
   subst e
   obtain⟨ut,ie,z,hie,hz,hsz,_,hzc,hby⟩:=mM (hT _ _ ht) hel
   obtain⟨_,_,_,_,_,hk,_⟩:=(hT _ _ ht).elem _ _ _ hel
   rw[hA] at hob ⊢
   simp only[List.forall_mem_cons,aA,aP,decide_eq_true_eq,beq_iff_eq] at hob
   obtain⟨g1,g2,g3, -⟩:=hob
   subst g2
   rw[cI hl,cI hc]
   have hbb:(ie.bytes:Int)*x≤281474976710656:=by
    have h1:(ie.bytes:Int)≤65536:=by omega
    have h2:(ie.bytes:Int)*x≤65536*x:=Int.mul_le_mul_of_nonneg_right h1 g1
    omega
   have hrun:=run_make (P:=P) w t el ie z ut hie hz .i64 .i64 x x g1 (Int.le_refl _) hbb (by omega)
   refine⟨_,_,hrun,?_⟩
   obtain⟨q,rfl⟩:=Int.eq_ofNat_of_zero_le g1
   simp only[Int.toNat_natCast]
   refine kA hs hm (wr:=[]) rfl (hs.below (fW _)) rfl ?_ (But.of (fW _)) (fun y hy=>?_)
   ·have hlen:(List.replicate q (k.dflt aA)).length=q:=List.length_replicate
    have hrep:aA.rep (q:Int) (k.dflt aA)=List.replicate q (k.dflt aA):=rfl
    rw[hrep]
    have:=wW (w:=w) (k:=k) (es:=List.replicate q (k.dflt aA)) (cs:=madeCells z.cells (q*ie.size)) (t:=el) (c:=q) (ρ':=upd ρ m (.slice (some ⟨w.heap.size,0,none⟩) q q)) (by rw[size_madeCells,hsz,Nat.mul_comm]) (by rw[hlen];exact Nat.le_refl _) (by
     rw[hsz,zY z.cells k _ hzc hk q,List.take_length])
    rw[hlen] at this
    exact this
   ·simp only[bK,Option.some.injEq] at hy
    subst hy
    refine⟨.inl (Nat.le_refl _),fun j c hj _ hxj=>?_, .inl hs.size⟩
    have:=Blk.block (hs.ok j c hj).2.1 hxj
    exact Nat.lt_irrefl _ this
  ·simp at e
 ·simp at e
theorem Om (hA:K.A=aA) (hT:TOK P K.T) (hs:HS w0 Wr ρ h n w) {t:Nat} {x:Sc} {r:FR} (e:Jc K h t x=some r) :
  PS P w ρ n r (Instr.arrayAt t (x.den ρ)):=by
 unfold Jc at e
 split at e
 ·rename_i i ht
  split at e
  ·rename_i q e1 z id off esz lo hi c harr
   split at e
   ·rename_i own l hl
    split at e
    ·rename_i hc
     simp only[Bool.and_eq_true,beq_iff_eq,decide_eq_true_eq] at hc
     obtain⟨rfl,hc⟩:=hc
     obtain⟨hu,hz⟩:=(hT _ _ ht).arr _ _ _ harr
     obtain⟨b,o,h1,h2,h3,h4,h5,h6⟩:=hs.fix hl
     rw[hA] at e
     refine PS.pureO e (fun ho=>?_) fun _=>Dj h5
     simp only[List.forall_mem_cons,aA,aP,decide_eq_true_eq] at ho
     obtain⟨g0,g1, -⟩:=ho
     rw[sU h1]
     have hn: ¬ (hi.toNat - (0:Int).toNat < q):=by omega
     have hcn:c≠(0:Int).toNat:=by simp;omega
     rw[if_neg hcn]
     unfold Instr.arrayAt
     simp only[Sem.run_bind,run_underlying hu w,Result.andThen_ok]
     rw[if_neg hn]
     show _=Result.ok ((Sc.hp id off).den ρ) w
     rw[fR h1]
     simp
    ·simp at e
   ·simp at e
  ·simp at e
 ·simp at e
theorem Fp (hA:K.A=aA) (hT:TOK P K.T) (hs:HS w0 Wr ρ h n w) {src dst:Nat} {x:Sc} {r:FR} (e:xM K h src dst x=some r) :
  PS P w ρ n r (convert src dst (x.den ρ)):=by
 unfold xM at e
 split at e
 ·rename_i i j hi hj
  split at e
  ·rename_i el esz hel hsc
   split at e
   ·rename_i ob ms hrd
    obtain⟨us,ie,z,hie,hz,hsz,_,hzc,hby⟩:=mM (hT _ _ hi) hel
    have ud:=(hT _ _ hj).str hsc
    refine PS.pureO e (fun ho=>?_) fun _ _ _=>rfl
    have ue:=(hT _ _ hi).ints _ _ _ hel
    have hconv: ∀ a q c,(convert src dst (.slice a q c)).run P w=(Conv.bytesToString (.slice a q c)).run P w:=fun a q c=>by
     simp[convert,run_underlying us,run_underlying ud,run_underlying ue]
    rcases mB hA hs hrd ho with ⟨h1,rfl⟩ | ⟨b,o,c,h1,h2⟩
    ·rw[h1,hconv,hA];rfl
    ·rw[h1,hconv,hA]
     have hfl:RK.flat (.int .u8) ms=ms.map (Value.int .u8):=by
      clear hrd h1 h2 e
      induction ms with
      | nil=>rfl
      | cons a r ih=>simp only[RK.flat,List.flatMap_cons,List.map_cons] at ih ⊢;rw[ih];rfl
     rw[hfl] at h2
     refine run_bytesToString w _ _ _ ms ?_
     have:=run_loadCells_list (P:=P) w ⟨b,o,none⟩ (ms.map (Value.int .u8)) (jT h2)
     rw[List.length_map] at this
     exact this
   ·simp at e
  ·simp at e
 ·simp at e
theorem lN: ∀ (ms:List Int) (d:Dg) (i hi:Nat),hi≤32→i≤hi→(∀ v,v∈ms→0≤v∧v < 4294967296)→
  (iC d i hi ms).cells=d.cells.take i++((ms.take (hi - i)).map (Value.int .u32)++d.cells.drop (i+(ms.take (hi - i)).length))
 | [],d,i,hi,_,_,_=>by simp[iC]
 | v :: r,d,i,hi,h1,h2,h3=>by
  simp only[iC]
  split
  ·rename_i hlt
   obtain⟨g1,g2⟩:=h3 v (List.mem_cons_self ..)
   obtain⟨y,rfl⟩:=Int.eq_ofNat_of_zero_le g1
   rw[lN r (d.set i (y:Int).toNat) (i+1) hi h1 hlt fun u hu=>h3 u (List.mem_cons_of_mem _ hu)]
   have hi32:i < 32:=by omega
   rw[Int.toNat_natCast,Dg.set_cells d i y hi32 (by omega)]
   have e1:hi - i=hi - (i+1)+1:=by omega
   have hlen:i < d.cells.length:=by simpa using hi32
   rw[e1,List.take_succ_cons,List.map_cons,List.length_cons]
   have e2:(d.cells.set i (.int .u32 (y:Nat))).take (i+1)=d.cells.take i++[.int .u32 (y:Nat)]:=by
    rw[List.take_set, ← List.take_append_getElem hlen,List.set_append_right _ _ (by simp;omega)]
    have:i - (d.cells.take i).length=0:=by simp;omega
    rw[this];rfl
   rw[e2,List.drop_set_of_lt (by omega)]
   simp only[List.append_assoc,List.cons_append,List.nil_append]
   congr 4
   omega
  ·rename_i hge
   have:hi - i=0:=by omega
   rw[this];simp
theorem zM (ms:List Int):RK.flat (.int .u32) ms=ms.map (Value.int .u32):=by
 induction ms with
 | nil=>rfl
 | cons a r ih=>simp only[RK.flat,List.flatMap_cons,List.map_cons] at ih ⊢;rw[ih];rfl
theorem Fu (hA:K.A=aA) (hT:TOK P K.T) (hs:HS w0 Wr ρ h n w) {ts:List Nat} {x y:Sc} {r:FR} (e:CD K h ts x y=some r) (hob: ∀ b,b∈r.ob→b=true) (ty:Nat) :
  ∃ v w',(Builtin.copy_ ts.toArray ty #[x.den ρ,y.den ρ]).run P w= .ok v w'∧Did w0 Wr ρ h n m w r v w':=by
 unfold CD at e
 split at e
 ·rename_i t u
  split at e
  ·rename_i i ht
   split at e
   ·rename_i el id off lo hi hel
    split at e
    ·rename_i l hl
     split at e
     ·rename_i d ob ms _ hd hrd
      split at e
      ·rename_i q hq
       simp only[Option.some.injEq] at e
       subst e
       rw[hA] at hob hq ⊢
       simp only[List.cons_append,List.nil_append,List.forall_mem_cons] at hob
       obtain⟨g0,g1,g2,g3,g4⟩:=hob
       simp only[aA,aP,decide_eq_true_eq] at g0 g1 g2
       have hall: ∀ v,v∈ms→0≤v∧v < 4294967296:=fun v hv=>by
        have:=List.all_eq_true.1 g3 v hv
        simpa using this
       obtain⟨hu,hsz,_,_⟩:=(hT _ _ ht).elem _ _ _ hel
       obtain⟨b,o,h1,h2,h3,h4,h5,h6⟩:=hs.fix hl
       obtain⟨h9,h10⟩:=j7 (ρ:=ρ) hd
       have hth:=h4 rfl
       obtain⟨h7,h8⟩:=cR ρ hq
       have hL:lo.toNat≤32:=by omega
       have hlen:Nat.min ms.length (hi.toNat - lo.toNat)=(ms.take (hi.toNat - lo.toNat)).length:=by rw[List.length_take];exact Nat.min_comm _ _
       have hval:aA.mn (aA.len ms) (aA.isub hi lo)=(((ms.take (hi.toNat - lo.toNat)).length:Nat):Int):=by
        rw[← hlen]
        show(if hi - lo < (ms.length:Int) then hi - lo else(ms.length:Int))=_
        have:Nat.min ms.length (hi.toNat - lo.toNat)=if hi.toNat - lo.toNat < ms.length then hi.toNat - lo.toNat else ms.length:=by
         show min _ _=_
         rw[Nat.min_def];split <;> split <;> omega
        rw[this]
        split <;> split <;> omega
       rw[hval,sU h1]
       have hcd:aA.copyD d lo hi ms=iC d lo.toNat hi.toNat ms:=rfl
       rw[hcd] at hq h8
       generalize hcs:(ms.take (hi.toNat - lo.toNat)).map (Value.int .u32)=cs
       have hcl:cs.length=(ms.take (hi.toNat - lo.toNat)).length:=by rw[← hcs,List.length_map]
       have hcsb:cs.length≤hi.toNat - lo.toNat:=by rw[hcl,List.length_take];omega
       have hone: ∀ v∈cs,v.oneCell'=true:=fun v hv=>by
        rw[← hcs] at hv
        obtain⟨z,_,rfl⟩:=List.mem_map.1 hv
        rfl
       have hfd:aI ρ [At.D (iC d lo.toNat hi.toNat ms)]=d.cells.take lo.toNat++(cs++d.cells.drop (lo.toNat+cs.length)):=by
        simp only[aI,At.cells,List.append_nil]
        rw[lN ms d _ _ (by omega) (by omega) hall,hcs,hcl]
       have hsz1:bO [At.D (iC d lo.toNat hi.toNat ms)]=32:=rfl
       have hfq:aI ρ q=(aI ρ l).take (off+lo.toNat)++(cs++(aI ρ l).drop (off+lo.toNat+cs.length)):=by
        rw[h8,hfd,hsz1]
        have hdl:d.cells=((aI ρ l).drop off).take 32:=h10.symm
        apply List.ext_getElem?
        intro j
        have hdj: ∀ i,i < 32→d.cells[i]? =(aI ρ l)[off+i]? :=fun i hi=>by
         rw[hdl,List.getElem?_take,if_pos hi,List.getElem?_drop]
        have hlenl:(aI ρ l).length=bO l:=flats_length ρ l
        by_cases c1:j < off
        ·rw[List.getElem?_append_left (by simp;omega),List.getElem?_append_left (by simp;omega),List.getElem?_take,List.getElem?_take,if_pos c1,if_pos (by omega)]
        ·rw[List.getElem?_append_right (by simp;omega)]
         have e1:j - ((aI ρ l).take off).length=j - off:=by simp;omega
         rw[e1]
         by_cases c2:j < off+lo.toNat
         ·rw[List.getElem?_append_left (by simp;omega),List.getElem?_append_left (by simp;omega),List.getElem?_append_left (by simp;omega),List.getElem?_take,List.getElem?_take,if_pos (by omega),if_pos c2,hdj _ (by omega)]
          congr 1;omega
         ·rw[List.getElem?_append_right (l₁:=(aI ρ l).take (off+lo.toNat)) (by simp;omega)]
          have e2:j - ((aI ρ l).take (off+lo.toNat)).length=j - off - lo.toNat:=by simp;omega
          rw[e2]
          by_cases c3:j < off+lo.toNat+cs.length
          ·rw[List.getElem?_append_left (by simp;omega),List.getElem?_append_right (by simp;omega),List.getElem?_append_left (by simp;omega),List.getElem?_append_left (by omega)]
           congr 1;simp;omega
          ·rw[List.getElem?_append_right (l₁:=cs) (by omega),List.getElem?_drop]
           by_cases c4:j < off+32
           ·rw[List.getElem?_append_left (by simp;omega),List.getElem?_append_right (by simp;omega),List.getElem?_append_right (by simp;omega),List.getElem?_drop]
            rw[hdj _ (by simp;omega)]
            congr 1;simp;omega
           ·rw[List.getElem?_append_right (by simp;omega),List.getElem?_drop]
            congr 1;simp;omega
       have hrest: ∀ o',o'=o+(off+lo.toNat)∨cs=[]→Did w0 Wr ρ h n m w ⟨[aA.cmp .leq 0 lo,aA.cmp .leq lo hi,aA.cmp .leq hi 32,aA.all32 ms]++ob, .c (.s (.int .i64 (((ms.take (hi.toNat - lo.toNat)).length:Nat):Int))),[],[(id, .fix true q)]⟩ (goInt cs.length) (w.setCells b o' cs):=by
        intro o' ho'
        have hset:w.setCells b o' cs=w.setCells b (o+(off+lo.toNat)) cs:=by
         rcases ho' with rfl | h0
         ·rfl
         ·rw[h0];rfl
        rw[hset]
        obtain⟨e1,e2,e3,e4⟩:=cW b cs (o+(off+lo.toNat)) w
        have hfar: ∀ x,x≠b→(w.setCells b (o+(off+lo.toNat)) cs).heap[x]? =w.heap[x]? :=fun x hx=>dS _ _ x hx
        refine⟨ρ,bZ.refl _ _,by rw[hcl];rfl,fun _ _=>rfl,(hs.write (k':= .fix true q) hl rfl (by rw[h1];rfl) hfar e4 e1 e2 e3 ⟨b,o,h1,by omega,?_,fun _=>?_⟩ (fun ρ' ha=>?_)).addI0,⟨e1,e2,e3.1,Nat.le_of_eq e3.2.symm,Nat.le_of_eq e4.symm,fun x _ hn=>hfar x fun e=>hn ⟨id, .fix true q,List.mem_cons_self ..,by rw[h1,e];rfl⟩⟩,fun i x h1 h2=>by simp at h2;omega⟩
        ·rw[hfq]
         exact d9 h3 (by simpa using hth) (off:=off+lo.toNat) (new:=cs) (by simp;omega)
        ·rw[lI hq]
         exact World.there_setCells hth b _ _
        ·rw[h8,(cR ρ' hq).2,h6 ρ' ha];rfl
       rcases mB hA hs hrd g4 with ⟨h11,rfl⟩ | ⟨b2,o2,c2,h11,h12⟩
       ·rw[h11]
        have:=run_copy_none w t u ty el (some (if 32=lo.toNat then⟨b,o+off,none⟩ else⟨b,o+(off+lo.toNat*1),none⟩)) none (hi.toNat - lo.toNat) (32 - lo.toNat) 0 0 hu hsz (by simp)
        refine⟨_,_,this,?_⟩
        have hcs0:cs=[]:=by rw[← hcs];simp
        have h13:=hrest 0 (.inr hcs0)
        rw[hcs0] at h13
        exact h13
       ·rw[h11]
        rw[zM] at h12
        have hsrc: ∀ j v,cs[j]? =some v→w.cell? ((⟨b2,o2,none⟩:Addr).add j)=some v:=fun j v hv=>by
         refine jT h12 j v ?_
         rw[← hcs,List.map_take,List.getElem?_take] at hv
         split at hv
         ·exact hv
         ·simp at hv
        by_cases hL2:32=lo.toNat
        ·rw[if_pos hL2]
         have hcs0:cs=[]:=List.eq_nil_of_length_eq_zero (by omega)
         have:=run_copy_cells w t u ty el b (o+off) (hi.toNat - lo.toNat) (32 - lo.toNat) ⟨b2,o2,none⟩ ms.length c2 cs hu hsz (by rw[hcl, ← hlen]) hsrc (fun j hj=>by rw[hcs0] at hj;simp at hj) (fun j hj=>by rw[hcs0] at hj;simp at hj) hone
         exact⟨_,_,this,hrest _ (.inr hcs0)⟩
        ·rw[if_neg hL2]
         have hth2: ∀ j,j < cs.length→(w.cell? ⟨b,o+(off+lo.toNat*1)+j,none⟩).isSome=true∧w.frozen? ⟨b,o+(off+lo.toNat*1)+j,none⟩=false:=fun j hj=>by
          have:=hth (off+lo.toNat+j) (by omega)
          rwa [show o+(off+lo.toNat+j)=o+(off+lo.toNat*1)+j from by omega] at this
         have:=run_copy_cells w t u ty el b (o+(off+lo.toNat*1)) (hi.toNat - lo.toNat) (32 - lo.toNat) ⟨b2,o2,none⟩ ms.length c2 cs hu hsz (by rw[hcl, ← hlen]) hsrc (fun j hj=>(hth2 j hj).1) (fun j hj=>(hth2 j hj).2) hone
         exact⟨_,_,this,hrest _ (.inl (by omega))⟩
      ·simp at e
     ·simp at e
    ·simp at e
   ·simp at e
  ·simp at e
 ·simp at e
theorem ajD (hA:K.A=aA) (hT:TOK P K.T) (hs:HS w0 Wr ρ h n w) {ts:List Nat} {x:Sc} {r:FR} (e:ai3 K h ts x=some r) (hob: ∀ b,b∈r.ob→b=true) (ty:Nat) :
  ∃ v w',(Builtin.clear_ ts.toArray ty #[x.den ρ]).run P w= .ok v w'∧Did w0 Wr ρ h n m w r v w':=by
 unfold ai3 at e
 split at e
 ·rename_i t id z lo hi
  split at e
  ·rename_i i k l ht hl
   split at e
   ·rename_i el esz k2 hel
    split at e
    ·rename_i d hd
     split at e
     ·rename_i hz
      simp only[Option.some.injEq] at e
      subst e
      obtain⟨rfl,hd⟩:=RK.cast_eq hd
      have hd:k2.dflt K.A=d:=by simpa using hd
      subst hd
      have hz:z=k2.esz:=by simpa using hz
      subst hz
      rw[hA] at hob ⊢
      simp only[List.forall_mem_cons,aA,aP,decide_eq_true_eq] at hob
      obtain⟨g1,g2,g3, -⟩:=hob
      obtain⟨b,o,cap,h1,h2,h3,h4,h5,h6⟩:=hs.vec hl (by omega)
      obtain⟨ut,ie,zz,hie,hzz,hsz,_,hzc,hby⟩:=mM (hT _ _ ht) hel
      obtain⟨_,_,_,_,_,hk,_⟩:=(hT _ _ ht).elem _ _ _ hel
      have hcap:w.there b o (k2.esz*cap):=by
       obtain⟨_,⟨base,cap',q1,q2,q3⟩,_⟩:=hs.ok _ _ hl
       rw[h1] at q1
       cases q1
       obtain⟨b',o',q4,_,_,q5⟩:=q3
       cases q4
       exact q5 rfl
      have hden:(Sc.hw id k2.esz lo hi).den ρ= .slice (some ⟨b,o+lo.toNat*k2.esz,none⟩) (hi.toNat - lo.toNat) (cap - lo.toNat):=by
       simp only[Sc.den,h1]
       rw[if_neg (by omega),Option.map_some,Addr.add_mid]
      have hcs: ∃ cs,cs=k2.flat (List.replicate (hi.toNat - lo.toNat) (k2.dflt aA)):=⟨_,rfl⟩
      obtain⟨cs,hcs⟩:=hcs
      have hcl:cs.length=k2.esz*(hi.toNat - lo.toNat):=by rw[hcs,RK.flat_length,List.length_replicate]
      have hm1:lo.toNat*k2.esz+k2.esz*(hi.toNat - lo.toNat)=hi.toNat*k2.esz:=by
       rw[Nat.mul_comm k2.esz, ← Nat.add_mul];congr 1;omega
      have hm2:hi.toNat*k2.esz≤k2.esz*l.length:=by rw[Nat.mul_comm];exact Nat.mul_le_mul_left _ (by omega)
      have hth:w.there b o (k2.esz*l.length):=h5 rfl
      have hone: ∀ v,v∈cs→v.oneCell'=true:=by rw[hcs];exact RK.flat_one k2 _
      have hst:=run_storeCells_cells (P:=P) b (o+lo.toNat*k2.esz) cs 0 w
       (fun j hj=>by have:=(hth (lo.toNat*k2.esz+j) (by omega)).1;rwa [show o+(lo.toNat*k2.esz+j)=o+lo.toNat*k2.esz+0+j from by omega] at this)
       (fun j hj=>by have:=(hth (lo.toNat*k2.esz+j) (by omega)).2;rwa [show o+(lo.toNat*k2.esz+j)=o+lo.toNat*k2.esz+0+j from by omega] at this) hone
      have hzero:(Builtin.zeroCells zz.cells (hi.toNat - lo.toNat)).toList=cs:=by
       have hzs:zz.cells.size=k2.esz:=by rw[← Array.length_toList,hzc,flats_length,k2.at_sizes]
       have:=zY zz.cells k2 _ hzc hk (hi.toNat - lo.toNat)
       rw[hcs, ← this]
       unfold Builtin.zeroCells madeCells
       rw[hzs]
      have hzv: ∀ w:World,(zeroValue el).run P w= .ok zz w:=fun w=>by
       simp[zeroValue,typeInfo,hie,hzz]
      have hrun:(Builtin.clear_ #[t] ty #[(Sc.hw id k2.esz lo hi).den ρ]).run P w= .ok (.tuple #[]) (w.setCells b (o+lo.toNat*k2.esz) cs):=by
       rw[hden]
       rw[← hzero,Nat.add_zero] at hst
       rw[← hzero]
       obtain⟨q,hq⟩: ∃ q,hi.toNat - lo.toNat=q+1:=⟨hi.toNat - lo.toNat - 1,by omega⟩
       rw[hq] at hst ⊢
       simp[Builtin.clear_,run_underlying ut,hzv,hst]
      refine⟨_,_,hrun,?_⟩
      obtain⟨e1,e2,e3,e4⟩:=cW b cs (o+lo.toNat*k2.esz) w
      have hfar: ∀ x,x≠b→(w.setCells b (o+lo.toNat*k2.esz) cs).heap[x]? =w.heap[x]? :=fun x hx=>dS _ _ x hx
      have hL:aA.app (aA.sub l 0 lo) (aA.app (aA.rep (aA.isub hi lo) (k2.dflt aA)) (aA.sub l hi (aA.len l)))=l.take lo.toNat++(List.replicate (hi.toNat - lo.toNat) (k2.dflt aA)++l.drop hi.toNat):=by
       show(l.take lo.toNat).drop (0:Int).toNat++(List.replicate (hi - lo).toNat (k2.dflt aA)++(l.take (l.length:Int).toNat).drop hi.toNat)=_
       rw[Int.toNat_zero,List.drop_zero,Int.toNat_natCast,List.take_length,show(hi - lo).toNat=hi.toNat - lo.toNat from by omega]
      have hLl:(aA.app (aA.sub l 0 lo) (aA.app (aA.rep (aA.isub hi lo) (k2.dflt aA)) (aA.sub l hi (aA.len l)))).length=l.length:=by
       rw[hL];simp;omega
      refine⟨ρ,bZ.refl _ _,rfl,fun _ _=>rfl,(hs.write (k':= .vec true k2 _) hl rfl (by rw[h1];rfl) hfar e4 e1 e2 e3 ⟨some ⟨b,o,none⟩,cap,by rw[hLl];exact h1,by rw[hLl];exact h2,b,o,rfl,by omega,?_,fun _=>World.there_setCells hcap b _ _⟩ trivial).addI0,⟨e1,e2,e3.1,Nat.le_of_eq e3.2.symm,Nat.le_of_eq e4.symm,fun x _ hn=>hfar x fun e=>hn ⟨id,_,List.mem_cons_self ..,by rw[h1,e];rfl⟩⟩,fun i x h1 h2=>by simp at h2;omega⟩
      have hfl:k2.flat (aA.app (aA.sub l 0 lo) (aA.app (aA.rep (aA.isub hi lo) (k2.dflt aA)) (aA.sub l hi (aA.len l))))=(k2.flat l).take (lo.toNat*k2.esz)++(cs++(k2.flat l).drop (lo.toNat*k2.esz+cs.length)):=by
       rw[hL,RK.flat_append,RK.flat_append,RK.flat_take', ← hcs,RK.flat_drop' k2 l _,hcl,hm1]
      rw[hfl]
      exact d9 h4 (by rw[RK.flat_length];exact hth) (by rw[RK.flat_length];omega)
     ·cases e
    ·cases e
   ·cases e
  ·cases e
 ·cases e
end
structure aJ (P:Program) (f:Nat) (sem:bU):Prop where
 enters: ∀ (args:Array Value) (w:World),(callFunc f args).run P w= .ok (.enter f args) w
 calls: ∀ (n:Ids) (m:Nat) (args:List CV) (h:bT) (r:FR),(∀ i,n i→i < m)→sem m args h=some r→(∀ b,b∈r.ob→b=true)→ ∀ (w0:World) (Wr:jH) (ρ:Rho) (w:World),HS w0 Wr ρ h n w→(∀ v,v∈args→iK n ρ v)→
  Calls P f (args.map (CV.den ρ)).toArray w fun e w'=> ∃ v,e= .returned v∧Did w0 Wr ρ h n m w r v w'
theorem sF: ∀ {l:List CV} {cs:List (Nat×Nat)},vN l=some cs→ ∀ ρ:Rho,l.map (CV.den ρ)=cs.map fun c=>cF (ρ c.1) c.2
 | [],_,h,ρ=>by simp only[vN,Option.some.injEq] at h;subst h;rfl
 | v :: r,cs,h,ρ=>by
  unfold vN at h
  split at h
  ·rename_i heq;cases heq
  ·rename_i i o r' heq
   obtain⟨rfl,rfl⟩:=List.cons.inj heq
   split at h
   ·rename_i l hl
    simp only[Option.some.injEq] at h
    subst h
    simp only[List.map_cons,sF hl ρ]
    rfl
   ·cases h
  ·cases h
def Res (P:Program) (R:Value→World→Prop):Result Next→Prop
 | .ok (.value v) w'=>R v w'
 | .ok .skip w'=>R undef w'
 | .ok (.enter f args) w'=>Calls P f args w' fun e w''=> ∃ v,e= .returned v∧R v w''
 | _=>False
theorem Res.mono {P:Program} {R R':Value→World→Prop} (h: ∀ v w,R v w→R' v w) {x:Result Next} (hx:Res P R x):Res P R' x:=by
 unfold Res at *
 split at hx
 ·exact h _ _ hx
 ·exact h _ _ hx
 ·exact hx.mono fun e w' ⟨v,he,hr⟩=>⟨v,he,h _ _ hr⟩
 ·exact hx.elim
theorem Res.wp {P:Program} {o:Oper} {a:Act} {w:World} {R:Value→World→Prop} {K:Act→World→Prop} {Q:Exit→Act→World→Prop}
  (hx:Res P R ((execOp a.eval o).run P w)) (h: ∀ v w',R v w'→K (a.put o.dst v) w'):o.wp P a w K Q:=by
 unfold Oper.wp
 generalize (execOp a.eval o).run P w=x at *
 cases x with
 | ok nx w'=>
  cases nx <;> simp only[Res] at hx <;> simp only[Oper.upon]
  case value v=>exact h _ _ hx
  case skip=>exact h _ _ hx
  case enter f args=>exact hx.mono fun e w'' ⟨v,he,hr⟩=>by subst he;exact h _ _ hr
 | halt x w'=>simp only[Res] at hx
structure Sat (K:Cx) (w0:World) (Wr:jH) (ρ:Rho) (n:Ids) (s:St) (a:Act) (w:World):Prop where
 size:a.tmps.size=K.N
 defers:a.defers=[]
 env: ∀ t e,(t,e)∈s.env→(bG K s.env e.gs=true→a.tmps[t]? =some (e.v.den ρ)∧nT n ρ e.v)∧(bG K s.env e.gs=false→a.tmps[t]? =some undef)
 hs:HS w0 Wr ρ s.heap n w
 lt: ∀ i,n i→i < s.nid
section
variable {P:Program} {K:Cx} {w0:World} {Wr:jH} {ρ:Rho} {n:Ids} {s:St} {a:Act} {w:World} {gs:List (Nat×Bool)}
theorem sQ (hA:K.A=aA) {env:List (Nat×Ent)} {t:Nat} {b:Bool} {r:List (Nat×Bool)} (h:bG K env ((t,b) :: r)=true) :
  bG K env r=true∧ ∃ e z,aN env t=some e∧e.v= .c (.s (.bool z))∧z=b:=by
 unfold bG at h
 split at h
 ·rename_i g z hl
  split at h
  ·refine⟨rfl,_,z,hl,rfl,?_⟩
   rw[hA] at h;simpa [aA] using h
  ·rw[hA] at h
   simp only[aA,Bool.and_eq_true,beq_iff_eq] at h
   exact⟨h.1,_,z,hl,rfl,h.2⟩
 ·simp at h
theorem BN (hA:K.A=aA) {env:List (Nat×Ent)} {g:List (Nat×Bool)} : ∀ {hs:List (Nat×Bool)},Ou g hs=true→bG K env hs=true→bG K env g=true:=by
 intro hs
 induction hs with
 | nil=>
  intro h h2
  unfold Ou at h
  split at h
  ·rename_i e;simp only[beq_iff_eq] at e;subst e;exact h2
  ·simp at h
 | cons x r ih=>
  intro h h2
  unfold Ou at h
  split at h
  ·rename_i e;simp only[beq_iff_eq] at e;subst e;exact h2
  ·obtain⟨t,b⟩:=x
   exact ih h (sQ hA h2).1
theorem dD {α:Type} {l:List (Nat×α)} {t:Nat} {e:α} (h:aN l t=some e):(t,e)∈l:=by
 induction l with
 | nil=>simp[aN] at h
 | cons x r ih=>
  obtain⟨j,v⟩:=x
  simp only[aN] at h
  split at h
  ·rename_i hj
   simp only[beq_iff_eq] at hj
   simp only[Option.some.injEq] at h
   subst hj h
   exact List.mem_cons_self ..
  ·exact List.mem_cons_of_mem _ (ih h)
theorem D9 (hA:K.A=aA) (hs:Sat K w0 Wr ρ n s a w) (hg:bG K s.env gs=true) {t:Nat} {v:XV} (e:rdE s.env gs t=some v) :
  a.tmps[t]? =some (v.den ρ)∧nT n ρ v:=by
 unfold rdE at e
 split at e
 ·rename_i en hl
  split at e
  ·rename_i hsu
   have hv:en.v=v:=by
    split at e
    ·simp at e
    ·simpa using e
   subst hv
   exact(hs.env t en (dD hl)).1 (BN hA hsu hg)
  ·simp at e
 ·simp at e
theorem xH {v:Value} {x:Sc} (e:xG v=some x):v=x.den ρ∧ ∀ ρ',x.den ρ'=x.den ρ:=by
 unfold xG at e
 split at e <;> first
  |(simp only[Option.some.injEq] at e;subst e;exact⟨rfl,fun _=>rfl⟩)
  | simp at e
theorem gW (hA:K.A=aA) (hs:Sat K w0 Wr ρ n s a w) (hg:bG K s.env gs=true) {x:Operand} {v:XV} (e:rdX s.env gs x=some v) :
  a.eval x=v.den ρ∧nT n ρ v:=by
 unfold rdX at e
 split at e
 ·obtain⟨h1,h2⟩:=D9 hA hs hg e
  exact⟨by simp[Act.eval,h1],h2⟩
 ·split at e
  ·rename_i x hx
   simp only[Option.some.injEq] at e
   subst e
   obtain⟨h1,h2⟩:=xH (ρ:=ρ) hx
   exact⟨h1,fun ρ' _=>h2 ρ'⟩
  ·simp at e
 ·simp only[Option.some.injEq] at e
  subst e
  exact⟨rfl,fun _ _=>rfl⟩
 ·simp at e
theorem fL (hA:K.A=aA) (hs:Sat K w0 Wr ρ n s a w) (hg:bG K s.env gs=true) {x:Operand} {v:CV} (e:rdC s.env gs x=some v) :
  a.eval x=v.den ρ∧iK n ρ v:=by
 unfold rdC at e
 split at e
 ·rename_i v' hv
  simp only[Option.some.injEq] at e
  subst e
  exact gW hA hs hg hv
 ·simp at e
theorem bQ (hA:K.A=aA) (hs:Sat K w0 Wr ρ n s a w) (hg:bG K s.env gs=true) {x:Operand} {v:Sc} (e:rdS s.env gs x=some v) :
  a.eval x=v.den ρ∧iK n ρ (.s v):=by
 unfold rdS at e
 split at e
 ·rename_i v' hv
  simp only[Option.some.injEq] at e
  subst e
  exact gW hA hs hg hv
 ·simp at e
theorem wH (hA:K.A=aA) (hs:Sat K w0 Wr ρ n s a w) (hg:bG K s.env gs=true) {x:Option Operand} {v:Option Sc} (e:rdO s.env gs x=some v) :
  x.map a.eval=v.map (Sc.den ρ):=by
 unfold rdO at e
 split at e
 ·simp only[Option.some.injEq] at e;subst e;rfl
 ·split at e
  ·rename_i y hy
   simp only[Option.some.injEq] at e;subst e
   simp only[Option.map_some]
   rw[(bQ hA hs hg hy).1]
  ·simp at e
theorem K7 {env:List (Nat×Ent)} {t:Nat} {x:Sc} (hc:rdS env gs (.tmp t)=some x): ∃ en,aN env t=some en∧en.v= .c (.s x):=by
 unfold rdS at hc
 split at hc
 ·rename_i v' hv
  simp only[Option.some.injEq] at hc
  subst hc
  have hv':rdE env gs t=some (.c (.s v')):=hv
  unfold rdE at hv'
  split at hv'
  ·rename_i en hl
   split at hv'
   ·split at hv'
    ·simp at hv'
    ·exact⟨en,hl,by simpa using hv'⟩
   ·simp at hv'
  ·simp at hv'
 ·simp at hc
theorem jU (hA:K.A=aA) (hs:Sat K w0 Wr ρ n s a w) (hg:bG K s.env gs=true): ∀ {l:List (Nat×Operand)} {ps:List (Nat×CV)},oK s.env gs l=some ps→
  (l.map fun p=>(p.1,a.eval p.2))=(ps.map fun p=>(p.1,p.2.den ρ))∧ ∀ p,p∈ps→iK n ρ p.2
 | [],ps,e=>by simp only[oK,Option.some.injEq] at e;subst e;exact⟨rfl,fun _ h=>by simp at h⟩
 |(i,x) :: r,ps,e=>by
  simp only[oK] at e
  split at e
  ·rename_i v l hv hl
   simp only[Option.some.injEq] at e
   subst e
   obtain⟨h1,h2⟩:=fL hA hs hg hv
   obtain⟨h3,h4⟩:=jU hA hs hg hl
   refine⟨by simp[h1,h3],fun p hp=>?_⟩
   simp only[List.mem_cons] at hp
   rcases hp with rfl | hp
   ·exact h2
   ·exact h4 p hp
  ·simp at e
theorem cC (hA:K.A=aA) (hs:Sat K w0 Wr ρ n s a w) (hg:bG K s.env gs=true): ∀ {l:List Operand} {vs:List CV},j6 s.env gs l=some vs→
  l.map a.eval=vs.map (CV.den ρ)∧ ∀ v,v∈vs→iK n ρ v
 | [],ps,e=>by simp only[j6,Option.some.injEq] at e;subst e;exact⟨rfl,fun _ h=>by simp at h⟩
 | x :: r,ps,e=>by
  simp only[j6] at e
  split at e
  ·rename_i v l hv hl
   simp only[Option.some.injEq] at e
   subst e
   obtain⟨h1,h2⟩:=fL hA hs hg hv
   obtain⟨h3,h4⟩:=cC hA hs hg hl
   refine⟨by simp[h1,h3],fun p hp=>?_⟩
   simp only[List.mem_cons] at hp
   rcases hp with rfl | hp
   ·exact h2
   ·exact h4 p hp
  ·simp at e
theorem Did.pure {h:bT} {m:Nat} (hs:HS w0 Wr ρ h n w) {ob:List Bool} {v:XV} (hv:nT n ρ v):Did w0 Wr ρ h n m w ⟨ob,v,[],[]⟩ (v.den ρ) w:=
 ⟨ρ,bZ.refl _ _,rfl,hv.mono fun _=>mG,hs.addI0,But.of (Low.refl _ _),fun i x h1 h2=>by simp at h2;omega⟩
theorem iI {h:bT} {m:Nat} (hs:HS w0 Wr ρ h n w) {r:FR} {x:Sem Value} (hp:PS P w ρ n r x) (hob: ∀ b,b∈r.ob→b=true) :
  Res P (Did w0 Wr ρ h n m w r) (((do pure (.value (← x))):Sem Next).run P w):=by
 obtain⟨v,h1,h2,h3,h4⟩:=hp
 obtain⟨h5,h6⟩:=h4 hob
 rw[Sem.run_bind,h5]
 show Did w0 Wr ρ h n m w r (v.den ρ) w
 obtain⟨ob,val,new,wr⟩:=r
 simp only at h1 h2 h3
 subst h1 h2 h3
 exact Did.pure (m:=m) (v:= .c v) hs h6
def COK (P:Program) (C:Nat→Option bU):Prop:= ∀ f sem,C f=some sem→aJ P f sem
theorem nX {P:Program} {f:Int→Int→Int} {g:Value→Value→Sem Value} {k:IntKind} (hg: ∀ a b w,(g (.int k a) (.int k b)).run P w= .ok (.int k (f a b)) w) :
  ∀ (l:List CV) (n:Int) {r:FR},Jb f k n l=some r→ ∃ v:Int,(∀ ρ w,((l.map (CV.den ρ)).foldlM g (.int k n)).run P w= .ok (.int k v) w)∧r=⟨[], .c (.s (.int k v)),[],[]⟩
 | [],n,r,e=>by
  simp only[Jb,dW,Option.some.injEq] at e
  exact⟨n,fun _ _=>rfl,e.symm⟩
 | .s x :: l,n,r,e=>by
  simp only[Jb] at e
  split at e
  ·rename_i lit k' m hm
   split at e
   ·rename_i hk
    subst hk
    obtain⟨v,h1,h2⟩:=nX hg l _ e
    refine⟨v,fun ρ w=>?_,h2⟩
    simp only[List.map_cons,List.foldlM_cons,Sem.run_bind,CV.den,cI hm,hg,Result.andThen_ok]
    exact h1 ρ w
   ·simp at e
  ·simp at e
 | .g _ :: _,_,_,e=>by simp[Jb] at e
theorem nY (hA:K.A=aA) (hT:TOK P K.T) (hC:COK P K.C) (hs:Sat K w0 Wr ρ n s a w) (hg:bG K s.env gs=true) {o:Oper} {r:FR} (e:Mi K s gs o.op=some r) (hob: ∀ b,b∈r.ob→b=true) :
  Res P (Did w0 Wr ρ s.heap n s.nid w r) ((execOp a.eval o).run P w):=by
 unfold execOp
 unfold Mi at e
 split at e
 ·
   rename_i x ho
   rw[ho]
   split at e
   ·rename_i v hv
    simp only[Option.some.injEq] at e
    subst e
    obtain⟨h1,h2⟩:=gW hA hs hg hv
    simp only[h1]
    exact Did.pure hs.hs h2
   ·simp at e
 ·
   rename_i x ho
   rw[ho]
   split at e
   ·rename_i v hv
    simp only[Option.some.injEq] at e
    subst e
    obtain⟨h1,h2⟩:=gW hA hs hg hv
    simp only[h1]
    exact Did.pure hs.hs h2
   ·simp at e
 ·
   rename_i c x y ho
   rw[ho]
   split at e
   ·rename_i t
    split at e
    ·rename_i hc
     obtain⟨h1,_⟩:=bQ hA hs hg hc
     split at e
     ·rename_i v hv
      simp only[Option.some.injEq] at e
      subst e
      obtain⟨h3,h4⟩:=gW hA hs hg hv
      simp only[h1,Sc.den,asBool,Sem.run_bind,Sem.run_pure,Result.andThen_ok,if_true,h3]
      exact Did.pure hs.hs h4
     ·simp at e
    ·rename_i hc
     obtain⟨h1,_⟩:=bQ hA hs hg hc
     split at e
     ·rename_i v hv
      simp only[Option.some.injEq] at e
      subst e
      obtain⟨h3,h4⟩:=gW hA hs hg hv
      simp only[h1,Sc.den,asBool,Sem.run_bind,Sem.run_pure,Result.andThen_ok,Bool.false_eq_true,if_false,h3]
      exact Did.pure hs.hs h4
     ·simp at e
    ·rename_i z hc
     obtain⟨h1,_⟩:=bQ hA hs hg hc
     have hz:=K7 hc
     obtain⟨en,hl,hen⟩:=hz
     have hgw: ∀ b:Bool,z=b→bG K s.env ((t,b) :: gs)=true:=by
      intro b hb
      obtain⟨eg,ev⟩:=en
      simp only at hen
      subst hen
      subst hb
      unfold bG
      rw[hl]
      cases gs with
      | nil=>simp[hA,aA]
      | cons g r=>simp[hA,aA,hg]
     split at e
     ·rename_i xv yv hx hy
      split at e
      ·rename_i l1 p l2 q hp hq
       simp only[dW,Option.some.injEq] at e
       subst e
       simp only[h1,Sc.den,asBool,Sem.run_bind,Sem.run_pure,Result.andThen_ok]
       have key:(if z=true then a.eval x else a.eval y)=(Sc.bool (K.A.ite z p q)).den ρ:=by
        rw[hA]
        cases z with
        | true=>
         obtain⟨h3,_⟩:=bQ hA hs (hgw true rfl) hx
         simp only[if_true,h3,nU hp];rfl
        | false=>
         obtain⟨h3,_⟩:=bQ hA hs (hgw false rfl) hy
         simp only[Bool.false_eq_true,if_false,h3,nU hq];rfl
       have:=Did.pure (m:=s.nid) (v:= .c (.s (.bool (K.A.ite z p q)))) (ob:=[]) hs.hs (fun _ _=>rfl)
       show Did w0 Wr ρ s.heap n s.nid w _ (if z=true then a.eval x else a.eval y) w
       rw[key]
       exact this
      ·simp at e
     ·simp at e
    ·simp at e
   ·simp at e
 ·
   rename_i t ho
   rw[ho]
   split at e
   ·rename_i i ht
    split at e
    ·rename_i hnu
     simp only[Option.some.injEq] at e
     subst e
     have ty:=hT _ _ ht
     have hzs:kY n ρ i.zero.atoms:=fun ρ' _=>(ty.zst ρ').trans (ty.zst ρ).symm
     have hrun:(Instr.alloc t true (.tuple #[])).run P w= .ok (.pointer (some ⟨w.heap.size,0,none⟩)) (w.alloc (.cells (aI ρ i.zero.atoms).toArray t)):=by
      have hz:=ty.zero
      cases hq:P.info? t with
      | none=>simp[hq] at hz
      | some it=>
       simp only[hq,Option.bind_some] at hz
       have hc:(i.zero.den vC).cells=(aI ρ i.zero.atoms).toArray:=by rw[gP (fun _=>rfl) hnu,ty.zst ρ]
       simp[Instr.alloc,zeroValue,typeInfo,hq,hz,rN,hc]
     simp only[Sem.run_bind,hrun,Result.andThen_ok,Sem.run_pure]
     exact DA hs.hs hs.lt hzs
    ·simp at e
   ·simp at e
 ·
   rename_i t x ho
   rw[ho]
   split at e
   ·rename_i i v ht hv
    split at e
    ·rename_i hc
     simp only[Bool.and_eq_true,beq_iff_eq] at hc
     simp only[Option.some.injEq] at e
     subst e
     obtain⟨h1,h2⟩:=fL hA hs hg hv
     have hcells:=gP hs.hs.one hc.2
     have hrun:(Instr.box t (v.den ρ)).run P w= .ok (.pointer (some ⟨w.heap.size,0,none⟩)) (w.alloc (.cells (aI ρ v.atoms).toArray t)):=by
      simp[Instr.box,rN,hcells]
     simp only[h1,Sem.run_bind,hrun,Result.andThen_ok,Sem.run_pure]
     exact DA hs.hs hs.lt (rQ h2)
    ·simp at e
   ·simp at e
 ·
   rename_i t ps ho
   rw[ho]
   split at e
   ·rename_i l hl
    obtain⟨h1,h2⟩:=jU hA hs hg hl
    refine iI hs.hs (Fo (w:=w) hA hT hs.hs.one (fun p hp=>rQ (h2 p hp)) e ?_) hob
    rw[Array.toList_map]
    exact h1
   ·simp at e
 ·
   rename_i t m ps ho
   rw[ho]
   split at e
   ·rename_i i l ht hl
    split at e
    ·rename_i el esz k hel
     split at e
     ·rename_i es hes
      split at e
      ·rename_i hc
       simp only[Bool.and_eq_true,beq_iff_eq,decide_eq_true_eq] at hc
       simp only[Option.some.injEq] at e
       subst e
       obtain⟨h1,h2⟩:=jU hA hs hg hl
       have hbs:=oZ (w:=w) hT ht hel hs.hs.one hes hc.1.1 hc.1.2 hc.2 (parts:=ps.map fun x=>(x.1,a.eval x.2)) (by rw[Array.toList_map];exact h1)
       obtain⟨T,hrun⟩:=hbs
       have:(Instr.buildSlice t m (ps.map fun x=>(x.1,a.eval x.2))).run P w= .ok (.slice (some ⟨w.heap.size,0,none⟩) m m) (w.alloc (.cells (k.flat es).toArray T)):=hrun
       simp only[Sem.run_bind,this,Result.andThen_ok,Sem.run_pure]
       exact Bq hs.hs hs.lt hc.1.1
      ·simp at e
     ·simp at e
    ·simp at e
   ·simp at e
 ·
   rename_i t x ho
   rw[ho]
   split at e
   ·rename_i p hp
    obtain⟨h1,h2⟩:=bQ hA hs hg hp
    simp only[h1]
    exact iI hs.hs (Dt hA hT hs.hs e) hob
   ·simp at e
 ·
   rename_i t x y ho
   rw[ho]
   split at e
   ·rename_i p v hp hv
    obtain⟨h1,h2⟩:=bQ hA hs hg hp
    obtain⟨h3,h4⟩:=fL hA hs hg hv
    obtain⟨w',h5,h6⟩:=Et (w:=w) hA hT hs.hs (rQ h4) e hob
    simp only[h1,h3,Sem.run_bind,h5,Result.andThen_ok,Sem.run_pure]
    exact h6
   ·simp at e
 ·
   rename_i x ho
   rw[ho]
   split at e
   ·rename_i id off hp
    obtain⟨h1,h2⟩:=bQ hA hs hg hp
    split at e
    ·rename_i own l hl
     obtain⟨b,o',h3,h4,h5,h6,h7,h8⟩:=hs.hs.fix hl
     simp only[dW,Option.some.injEq] at e
     subst e
     simp only[h1,fR h3,Sem.run_pure]
     have:=Did.pure (m:=s.nid) (v:= .c (.s (.hp id off))) (ob:=[]) hs.hs h2
     have h9:(XV.c (.s (.hp id off))).den ρ= .pointer (some ⟨b,o'+off,none⟩):=fR h3
     rw[h9] at this
     exact this
    ·simp at e
   ·simp at e
 ·
   rename_i op t x y yt ho
   rw[ho]
   split at e
   ·rename_i p q hp hq
    obtain⟨h1,_⟩:=fL hA hs hg hp
    obtain⟨h2,_⟩:=fL hA hs hg hq
    simp only[h1,h2]
    exact iI hs.hs (M0 hA hT e) hob
   ·simp at e
 ·
   rename_i op t x ho
   rw[ho]
   split at e
   ·rename_i p hp
    obtain⟨h1,_⟩:=bQ hA hs hg hp
    simp only[h1]
    exact iI hs.hs (Ry hA e) hob
   ·simp at e
 ·
   rename_i src dst x ho
   rw[ho]
   split at e
   ·rename_i p hp
    obtain⟨h1,_⟩:=bQ hA hs hg hp
    simp only[h1]
    split at e
    ·exact iI hs.hs (IU hA hT e) hob
    ·exact iI hs.hs (Fp hA hT hs.hs e) hob
   ·simp at e
 ·
   rename_i t x ho
   rw[ho]
   split at e
   ·rename_i p hp
    obtain⟨h1,_⟩:=bQ hA hs hg hp
    simp only[h1]
    exact iI hs.hs (Om hA hT hs.hs e) hob
   ·simp at e
 ·
   rename_i t l c ho
   rw[ho]
   split at e
   ·rename_i p q hp hq
    obtain⟨h1,_⟩:=bQ hA hs hg hp
    obtain⟨h2,_⟩:=bQ hA hs hg hq
    obtain⟨v,w',h3,h4⟩:=FW (w:=w) hA hT hs.hs hs.lt e hob
    simp only[h1,h2,Sem.run_bind,h3,Result.andThen_ok,Sem.run_pure]
    exact h4
   ·simp at e
 ·
   rename_i fnn first caps ho
   rw[ho]
   split at e
   ·rename_i fi l hfirst hl
    obtain⟨h1,h2⟩:=cC hA hs hg hl
    split at e
    ·rename_i cs hcs
     have hcd: ∀ ρ:Rho,l.map (CV.den ρ)=cs.map fun c=>cF (ρ c.1) c.2:=fun ρ=>sF hcs ρ
     have hf0:first= #[]:=by apply Array.ext';simpa using hfirst
     have hcaps:caps.map a.eval=(l.map (CV.den ρ)).toArray:=by
      apply Array.ext'
      simpa using h1
     refine iI hs.hs (PS.pure e ?_ fun ρ' ha=>?_) hob
     ·rw[hf0]
      simp[Instr.makeFunc,hcaps,hcd,XV.den,CV.den,Sc.den]
     ·have h3:l.map (CV.den ρ')=l.map (CV.den ρ):=List.map_congr_left fun z hz=>h2 z hz ρ' ha
      rw[hcd,hcd] at h3
      simp[XV.den,CV.den,Sc.den,h3]
    ·simp at e
   ·simp at e
 ·
   rename_i t x f ho
   rw[ho]
   split at e
   ·rename_i p hp
    obtain⟨h1,_⟩:=bQ hA hs hg hp
    simp only[h1]
    exact iI hs.hs (FB hA hT hs.hs e) hob
   ·simp at e
 ·
   rename_i t x i ho
   rw[ho]
   split at e
   ·rename_i p j hp hj
    obtain⟨h1,_⟩:=bQ hA hs hg hp
    obtain⟨h2,_⟩:=bQ hA hs hg hj
    simp only[h1,h2]
    exact iI hs.hs (Nf hA hT hs.hs e) hob
   ·simp at e
 ·
   rename_i t x i ho
   rw[ho]
   split at e
   ·rename_i p j hp hj
    obtain⟨h1,_⟩:=fL hA hs hg hp
    obtain⟨h2,_⟩:=bQ hA hs hg hj
    simp only[h1,h2]
    exact iI hs.hs (PE hA hT e) hob
   ·rename_i l j hp hj
    obtain⟨h1,hlp⟩:=fL hA hs hg hp
    obtain⟨h2,_⟩:=bQ hA hs hg hj
    simp only[h1,h2]
    exact iI hs.hs (K5 hA hT hlp e) hob
   ·simp at e
 ·
   rename_i t x lo hi mx ho
   rw[ho]
   split at e
   ·rename_i p la lb hp hla hlb
    obtain⟨h1,_⟩:=bQ hA hs hg hp
    have h2:=wH hA hs hg hla
    have h3:=wH hA hs hg hlb
    simp only[h1,h2,h3]
    exact iI hs.hs (Hh hA hT hs.hs e) hob
   ·simp at e
 ·
   rename_i x i ho
   rw[ho]
   split at e
   ·rename_i l hl
    obtain⟨h1,h2⟩:=gW hA hs hg hl
    split at e
    ·rename_i v hv
     refine iI hs.hs (PS.pure e ?_ fun ρ' ha=>?_) hob
     ·simp only[h1,XV.den,Instr.extract]
      simp[hv]
     ·have h3:=h2 ρ' ha
      simp only[XV.den,Value.tuple.injEq] at h3
      have h4:=congrArg (fun x=>x[i]?) h3
      simpa [hv] using h4
    ·simp at e
   ·simp at e
 ·
   rename_i c ho
   rw[ho]
   split at e
   ·rename_i f hcal
    split at e
    ·rename_i sem l hsem hl
     obtain⟨h1,h2⟩:=cC hA hs hg hl
     have hco:=hC _ _ hsem
     have hargs:c.args.map a.eval=(l.map (CV.den ρ)).toArray:=by
      apply Array.ext'
      simpa using h1
     simp only[resolve,hcal,Act.eval,Deferred.ofValue,Sem.run_bind,Sem.run_pure,Result.andThen_ok,invoke]
     have:(callFunc f (#[]++c.args.map a.eval++ #[])).run P w= .ok (.enter f (l.map (CV.den ρ)).toArray) w:=by
      rw[hco.enters]
      simp[hargs]
     rw[this]
     exact hco.calls _ _ _ _ _ hs.lt e hob _ _ _ _ hs.hs h2
    ·simp at e
   ·rename_i tt hcal
    split at e
    ·rename_i fi caps l hcl hl
     obtain⟨h1,h2⟩:=cC hA hs hg hl
     obtain⟨h3,h4⟩:=bQ hA hs hg hcl
     split at e
     ·rename_i sem hsem
      have hco:=hC _ _ hsem
      have hargs:c.args.map a.eval=(l.map (CV.den ρ)).toArray:=by
       apply Array.ext'
       simpa using h1
      simp only[resolve,hcal,h3,Sc.den,Deferred.ofValue,Sem.run_bind,Sem.run_pure,Result.andThen_ok,invoke]
      have:(callFunc fi (#[]++c.args.map a.eval++(caps.map fun c=>cF (ρ c.1) c.2).toArray)).run P w= .ok (.enter fi ((l++caps.map fun c=>CV.s (.hp c.1 c.2)).map (CV.den ρ)).toArray) w:=by
       rw[hco.enters]
       congr 2
       simp only[hargs,List.map_append,List.map_map]
       apply Array.ext'
       simp[CV.den,Sc.den]
      rw[this]
      refine hco.calls _ _ _ _ _ hs.lt e hob _ _ _ _ hs.hs fun v hv=>?_
      rcases List.mem_append.1 hv with hv | hv
      ·exact h2 v hv
      ·obtain⟨z,hz,rfl⟩:=List.mem_map.1 hv
       intro ρ' ha
       have h5:=h4 ρ' ha
       simp only[CV.den,Sc.den,Value.func.injEq,true_and] at h5 ⊢
       have h6:(caps.map fun c=>cF (ρ' c.1) c.2)=(caps.map fun c=>cF (ρ c.1) c.2):=by simpa using h5
       exact List.map_inj_left.1 h6 z hz
     ·simp at e
    ·simp at e
   ·rename_i hcal
    have hlen: ∀ (v:Value) (n c':Nat) (x:Option Addr),P7 K c.argTypes.toList=true→c.args.map a.eval= #[v]→v= .slice x n c'→
      (do let d ← resolve a.eval c o.type;invoke d.target d.args:Sem Next).run P w= .ok (.value (.int .i64 n)) w:=by
     intro v n c' x hsl hargs hv
     subst hv
     have ht: ∃ t el,c.argTypes[0]? =some t∧P.underlying t=some (.slice el):=by
      unfold P7 at hsl
      split at hsl
      ·rename_i t hty
       split at hsl
       ·rename_i i hi
        obtain⟨⟨el,z,k⟩,hel⟩:=Option.isSome_iff_exists.1 hsl
        refine⟨t,el,?_,((hT _ _ hi).elem _ _ _ hel).1⟩
        have:=congrArg (fun l=>l[0]?) hty
        simpa using this
       ·simp at hsl
      ·simp at hsl
     obtain⟨t,el,h3,h4⟩:=ht
     simp only[resolve,hcal,Sem.run_bind,Sem.run_pure,Result.andThen_ok,invoke,builtin,hargs]
     simp[Builtin.len_,h3,run_underlying h4,goInt]
    split at e
    ·rename_i id hsl hl
     obtain⟨h1,h2⟩:=cC hA hs hg hl
     have hargs:c.args.map a.eval= #[ρ id]:=by
      apply Array.ext'
      simpa [CV.den,Sc.den] using h1
     split at e
     ·rename_i own k l hlk
      obtain⟨_,⟨base,cap,h3,_⟩,_⟩:=hs.hs.ok _ _ hlk
      simp only[dW,Option.some.injEq] at e
      subst e
      rw[hlen _ _ _ _ hsl hargs h3]
      have:=Did.pure (m:=s.nid) (v:= .c (.s (.int .i64 (K.A.len l)))) (ob:=[]) hs.hs (fun _ _=>rfl)
      rw[hA] at this ⊢
      exact this
     ·simp at e
    ·rename_i id z lo hi hsl hl
     obtain⟨h1,h2⟩:=cC hA hs hg hl
     have hargs:c.args.map a.eval= #[(Sc.hw id z lo hi).den ρ]:=by
      apply Array.ext'
      simpa [CV.den] using h1
     split at e
     ·rename_i own k l hlk
      obtain⟨_,⟨base,cap,h3,_⟩,_⟩:=hs.hs.ok _ _ hlk
      simp only[pureO,Option.some.injEq] at e
      subst e
      rw[hA] at hob ⊢
      simp only[List.forall_mem_cons,aA,aP,decide_eq_true_eq] at hob
      obtain⟨g0,g1, -⟩:=hob
      have h4:(Sc.hw id z lo hi).den ρ= .slice (if cap=lo.toNat then base else base.map (·.add (lo.toNat*z))) (hi.toNat - lo.toNat) (cap - lo.toNat):=by
       simp only[Sc.den,h3]
      rw[hlen _ _ _ _ hsl hargs h4]
      have e1:((hi.toNat - lo.toNat:Nat):Int)=hi - lo:=by omega
      rw[e1]
      exact Did.pure (m:=s.nid) (v:= .c (.s (.int .i64 (hi - lo)))) hs.hs (fun _ _=>rfl)
     ·simp at e
    ·rename_i hsl hl
     obtain⟨h1,h2⟩:=cC hA hs hg hl
     have hargs:c.args.map a.eval= #[.slice none 0 0]:=by
      apply Array.ext'
      simpa [CV.den,Sc.den] using h1
     simp only[dW,Option.some.injEq] at e
     subst e
     rw[hlen _ _ _ _ hsl hargs rfl]
     exact Did.pure (m:=s.nid) (v:= .c (.s (.lit .i64 0))) (ob:=[]) hs.hs (fun _ _=>rfl)
    ·rename_i id off z lo hi cp hsl hl
     obtain⟨h1,h2⟩:=cC hA hs hg hl
     have hargs:c.args.map a.eval= #[(Sc.ha id off z lo hi cp).den ρ]:=by
      apply Array.ext'
      simpa [CV.den] using h1
     split at e
     ·rename_i own l hlk
      obtain⟨b,o',h3,h4,h5,h6,h7,h8⟩:=hs.hs.fix hlk
      simp only[pureO,Option.some.injEq] at e
      subst e
      rw[hA] at hob ⊢
      simp only[List.forall_mem_cons,aA,aP,decide_eq_true_eq] at hob
      obtain⟨g0,g1, -⟩:=hob
      rw[hlen _ _ _ _ hsl hargs (sU h3)]
      have e1:((hi.toNat - lo.toNat:Nat):Int)=hi - lo:=by omega
      rw[e1]
      exact Did.pure (m:=s.nid) (v:= .c (.s (.int .i64 (hi - lo)))) hs.hs (fun _ _=>rfl)
     ·simp at e
    ·rename_i x hsl hl
     split at e
     ·rename_i hstr
      obtain⟨h1,h2⟩:=cC hA hs hg hl
      have hargs:c.args.map a.eval= #[.string x]:=by
       apply Array.ext'
       simpa [CV.den,Sc.den] using h1
      have ht: ∃ t,c.argTypes[0]? =some t∧P.underlying t=some .string:=by
       unfold Nh at hstr
       split at hstr
       ·rename_i t hty
        split at hstr
        ·rename_i i hi
         simp only[beq_iff_eq] at hstr
         refine⟨t,?_,(hT _ _ hi).str hstr⟩
         have:=congrArg (fun l=>l[0]?) hty
         simpa using this
        ·simp at hstr
       ·simp at hstr
      obtain⟨t,h3,h4⟩:=ht
      simp only[dW,Option.some.injEq] at e
      subst e
      have hrun:(do let d ← resolve a.eval c o.type;invoke d.target d.args:Sem Next).run P w= .ok (.value (.int .i64 x.size)) w:=by
       simp only[resolve,hcal,Sem.run_bind,Sem.run_pure,Result.andThen_ok,invoke,builtin,hargs]
       simp[Builtin.len_,h3,run_underlying h4,goInt]
      rw[hrun]
      have:=Did.pure (m:=s.nid) (v:= .c (.s (.int .i64 (K.A.slen x)))) (ob:=[]) hs.hs (fun _ _=>rfl)
      rw[hA] at this ⊢
      exact this
     ·simp at e
    ·simp at e
   ·rename_i hcal
    split at e
    ·rename_i x y hl
     obtain⟨h1,h2⟩:=cC hA hs hg hl
     have hargs:c.args.map a.eval= #[x.den ρ,y.den ρ]:=by
      apply Array.ext'
      simpa [CV.den] using h1
     obtain⟨v,w',h3,h4⟩:=IG (w:=w) hA hT hs.hs hs.lt e hob o.type
     simp only[Array.toArray_toList] at h3
     simp only[resolve,hcal,Sem.run_bind,Sem.run_pure,Result.andThen_ok,invoke,builtin,hargs,h3]
     exact h4
    ·simp at e
   ·rename_i hcal
    split at e
    ·rename_i x y hl
     obtain⟨h1,h2⟩:=cC hA hs hg hl
     have hargs:c.args.map a.eval= #[x.den ρ,y.den ρ]:=by
      apply Array.ext'
      simpa [CV.den] using h1
     obtain⟨v,w',h3,h4⟩:=Fu (m:=s.nid) (w:=w) hA hT hs.hs e hob o.type
     simp only[Array.toArray_toList] at h3
     simp only[resolve,hcal,Sem.run_bind,Sem.run_pure,Result.andThen_ok,invoke,builtin,hargs,h3]
     exact h4
    ·simp at e
   ·rename_i hcal
    split at e
    ·rename_i x hl
     obtain⟨h1,h2⟩:=cC hA hs hg hl
     have hargs:c.args.map a.eval= #[x.den ρ]:=by
      apply Array.ext'
      simpa [CV.den] using h1
     obtain⟨v,w',h3,h4⟩:=ajD (m:=s.nid) (w:=w) hA hT hs.hs e hob o.type
     simp only[Array.toArray_toList] at h3
     simp only[resolve,hcal,Sem.run_bind,Sem.run_pure,Result.andThen_ok,invoke,builtin,hargs,h3]
     exact h4
    ·simp at e
   ·rename_i hcal
    split at e
    ·rename_i x l hl
     obtain⟨h1,h2⟩:=cC hA hs hg hl
     split at e
     ·rename_i b k n hn
      obtain⟨v,h3,h4⟩:=nX (P:=P) (f:=K.A.mn) (g:=Builtin.min2) (fun a b w=>by rw[hA];simp[Builtin.min2,aA]) l n e
      subst h4
      have hargs:(c.args.map a.eval).toList= .int k n :: l.map (CV.den ρ):=by
       simpa [CV.den,cI hn] using h1
      simp only[resolve,hcal,Sem.run_bind,Sem.run_pure,Result.andThen_ok,invoke,builtin,Builtin.min_,hargs,h3,Result.andThen_ok]
      exact Did.pure (m:=s.nid) (v:= .c (.s (.int k v))) (ob:=[]) hs.hs (fun _ _=>rfl)
     ·simp at e
    ·simp at e
   ·rename_i hcal
    split at e
    ·rename_i x l hl
     obtain⟨h1,h2⟩:=cC hA hs hg hl
     split at e
     ·rename_i b k n hn
      obtain⟨v,h3,h4⟩:=nX (P:=P) (f:=K.A.mx) (g:=Builtin.max2) (fun a b w=>by rw[hA];simp[Builtin.max2,aA]) l n e
      subst h4
      have hargs:(c.args.map a.eval).toList= .int k n :: l.map (CV.den ρ):=by
       simpa [CV.den,cI hn] using h1
      simp only[resolve,hcal,Sem.run_bind,Sem.run_pure,Result.andThen_ok,invoke,builtin,Builtin.max_,hargs,h3,Result.andThen_ok]
      exact Did.pure (m:=s.nid) (v:= .c (.s (.int k v))) (ob:=[]) hs.hs (fun _ _=>rfl)
     ·simp at e
    ·simp at e
   ·simp at e
 ·simp at e
end
section
variable {P:Program} {K:Cx} {w0:World} {Wr:jH} {ρ:Rho} {n:Ids} {s:St} {a:Act} {w:World} {gs:List (Nat×Bool)}
theorem t7 {t t':Nat} {e:Ent} : ∀ {env:List (Nat×Ent)},(t',e)∈del t env→t'≠t∧(t',e)∈env
 | [],h=>by simp[del] at h
 |(j,f) :: r,h=>by
  simp only[del] at h
  split at h
  ·obtain⟨h1,h2⟩:=t7 h;exact⟨h1,List.mem_cons_of_mem _ h2⟩
  ·rename_i hj
   simp only[beq_iff_eq] at hj
   simp only[List.mem_cons,Prod.mk.injEq] at h
   rcases h with ⟨rfl,rfl⟩ | h
   ·exact⟨hj,List.mem_cons_self ..⟩
   ·obtain⟨h1,h2⟩:=t7 h;exact⟨h1,List.mem_cons_of_mem _ h2⟩
theorem uP {t t':Nat} (h:t'≠t): ∀ (env:List (Nat×Ent)),aN (del t env) t'=aN env t'
 | []=>rfl
 |(j,f) :: r=>by
  simp only[del]
  split
  ·rename_i hj
   simp only[beq_iff_eq] at hj
   subst hj
   rw[uP h r]
   simp only[aN]
   rw[if_neg (by simpa using fun e=>h e.symm)]
  ·simp only[aN]
   split
   ·rfl
   ·exact uP h r
theorem FQ {t t':Nat} {e:Ent} (h:t'≠t) (env:List (Nat×Ent)):aN (put env t e) t'=aN env t':=by
 unfold put
 simp only[aN]
 rw[if_neg (by simpa using fun e=>h e.symm)]
 exact uP h env
theorem kC {t:Nat} {e:Ent} {env:List (Nat×Ent)} : ∀ {gs:List (Nat×Bool)},gs.any (fun g=>g.1 == t)=false→bG K (put env t e) gs=bG K env gs
 | [],_=>rfl
 |(j,b) :: r,h=>by
  simp only[List.any_cons,Bool.or_eq_false_iff,beq_eq_false_iff_ne,ne_eq] at h
  unfold bG
  rw[FQ (by simpa using h.1),kC (env:=env) (e:=e) h.2]
theorem kI {t t':Nat} {e:Ent} : ∀ {env:List (Nat×Ent)},nD t env=false→(t',e)∈env→e.gs.any (fun g=>g.1 == t)=false
 | [],_,h=>by simp at h
 |(j,f) :: r,hm,h=>by
  simp only[nD,Bool.or_eq_false_iff] at hm
  simp only[List.mem_cons,Prod.mk.injEq] at h
  rcases h with ⟨_,rfl⟩ | h
  ·exact hm.1
  ·exact kI hm.2 h
theorem oH {t:Nat} {env:List (Nat×Ent)} (h:oG K (some t) gs env=true):t < K.N∧nD t env=false∧gs.any (fun g=>g.1 == t)=false:=by
 simp only[oG,Bool.and_eq_true,decide_eq_true_eq,Bool.not_eq_true'] at h
 exact⟨h.1.1,h.1.2,h.2⟩
theorem D8 {env:List (Nat×Ent)} {n':Ids} {ρ':Rho} {dst:Option Nat} {r:XV} {v:Value} (hsz:a.tmps.size=K.N) (hok:oG K dst gs env=true) (ha:bZ n ρ ρ') (hn: ∀ i,n i→n' i)
  (henv: ∀ t e,(t,e)∈env→(bG K env e.gs=true→a.tmps[t]? =some (e.v.den ρ)∧nT n ρ e.v)∧(bG K env e.gs=false→a.tmps[t]? =some undef))
  (hv:(bG K env gs=true→v=r.den ρ'∧nT n' ρ' r)∧(bG K env gs=false→v=undef)) :
  (a.put dst v).tmps.size=K.N∧
  ∀ t e,(t,e)∈(match dst with | some t=>put env t ⟨gs,r⟩ | none=>env)→
   (bG K (match dst with | some t=>put env t ⟨gs,r⟩ | none=>env) e.gs=true→(a.put dst v).tmps[t]? =some (e.v.den ρ')∧nT n' ρ' e.v)∧
   (bG K (match dst with | some t=>put env t ⟨gs,r⟩ | none=>env) e.gs=false→(a.put dst v).tmps[t]? =some undef):=by
 have old: ∀ e:Ent, ∀ t:Nat,(t,e)∈env→(bG K env e.gs=true→a.tmps[t]? =some (e.v.den ρ')∧nT n' ρ' e.v)∧(bG K env e.gs=false→a.tmps[t]? =some undef):=fun e t he=>by
  obtain⟨h1,h2⟩:=henv t e he
  refine⟨fun hg=>?_,h2⟩
  obtain⟨h3,h4⟩:=h1 hg
  exact⟨by rw[h4 ρ' ha];exact h3,nT.mono (nT.move h4 ha) hn⟩
 cases dst with
 | none=>exact⟨hsz,fun t e he=>old e t he⟩
 | some t=>
  obtain⟨g1,g2,g3⟩:=oH hok
  refine⟨by simp[Act.put,hsz],fun t' e he=>?_⟩
  simp only[put,List.mem_cons,Prod.mk.injEq] at he
  rcases he with ⟨rfl,rfl⟩ | he
  ·have hgb:bG K (put env t' ⟨gs,r⟩) gs=bG K env gs:=kC g3
   have htm:(a.put (some t') v).tmps[t']? =some v:=by
    simp only[Act.put]
    rw[Array.getElem?_setIfInBounds_self_of_lt (by omega)]
   constructor
   ·intro hg
    have h:=hv.1 (hgb.symm.trans hg)
    exact⟨by rw[htm,h.1],h.2⟩
   ·intro hg
    have h:=hv.2 (hgb.symm.trans hg)
    rw[htm,h]
  ·obtain⟨hne,hmem⟩:=t7 he
   have hgb:bG K (put env t ⟨gs,r⟩) e.gs=bG K env e.gs:=kC (kI g2 hmem)
   have htm:(a.put (some t) v).tmps[t']? =a.tmps[t']? :=by
    simp only[Act.put]
    rw[Array.getElem?_setIfInBounds_ne (by omega)]
   obtain⟨h1,h2⟩:=old e t' hmem
   rw[htm]
   exact⟨fun hg=>h1 (hgb.symm.trans hg),fun hg=>h2 (hgb.symm.trans hg)⟩
theorem oJ (x:Option Nat) (v:Value):(a.put x v).defers=a.defers:=by cases x <;> rfl
theorem yU (hs:Sat K w0 Wr ρ n s a w) (hg:bG K s.env gs=true) {dst:Option Nat} (hok:oG K dst gs s.env=true) {r:FR} {v:Value} {w':World} (hd:Did w0 Wr ρ s.heap n s.nid w r v w') :
  ∃ ρ' n',Sat K w0 Wr ρ' n' (s.take dst gs r) (a.put dst v) w':=by
 obtain⟨ρ',h1,h2,h3,h4,_,_⟩:=hd
 refine⟨ρ',kZ n s.nid r.new.length,?_⟩
 obtain⟨g1,g2⟩:=D8 (r:=r.val) (v:=v) (n':=kZ n s.nid r.new.length) hs.size hok h1 (fun _=>mG) hs.env ⟨fun _=>⟨h2,h3⟩,fun h=>by rw[hg] at h;cases h⟩
 exact⟨g1,by rw[oJ];exact hs.defers,g2,h4,fun i hi=>by
  rcases hi with hi | hi
  ·have:=hs.lt i hi;simp only[St.take];omega
  ·simp only[St.take];omega⟩
theorem Hu (hs:Sat K w0 Wr ρ n s a w) (hg:bG K s.env gs=false) {dst:Option Nat} (hok:oG K dst gs s.env=true) {r:FR} (h1:r.new=[]) (h2:r.wr=[]) :
  Sat K w0 Wr ρ n (s.take dst gs r) (a.put dst undef) w:=by
 obtain⟨g1,g2⟩:=D8 (r:=r.val) (v:=undef) (n':=n) hs.size hok (bZ.refl n ρ) (fun _ h=>h) hs.env ⟨(fun h=>by rw[hg] at h;cases h),fun _=>rfl⟩
 refine⟨g1,by rw[oJ];exact hs.defers,g2,?_,fun i hi=>?_⟩
 ·simp only[St.take,h1,h2];exact hs.hs
 ·have:=hs.lt i hi;simp only[St.take];omega
theorem CB {ops:Array Oper} {l:List Oper} (hl:ops.toList=l) (j:Nat):CA l j=(ops[j]?).bind (·.dst):=by
 subst hl
 unfold CA
 simp only[Array.getElem?_toList]
 cases ops[j]? <;> rfl
theorem jN (hA:K.A=aA) (hs:Sat K w0 Wr ρ n s a w) {ops:Array Oper} {l:List Oper} (hl:ops.toList=l) (o:Oper) {G:Gd} (hG:kF l s o=G) :
  match G with
  | .on=>Region.wanted o (yielded ops a.tmps)=true
  | .off=>Region.wanted o (yielded ops a.tmps)=false
  | .sym gs=>Region.wanted o (yielded ops a.tmps)=bG K s.env gs
  | .bad=>True:=by
 unfold kF at hG
 cases hgd:o.guard with
 | none=>
  simp only[hgd] at hG
  subst hG
  simp[Region.wanted,hgd]
 | some p=>
  obtain⟨j,want⟩:=p
  simp only[hgd] at hG
  cases hd:CA l j with
  | none=>simp only[hd] at hG;subst hG;trivial
  | some t=>
   simp only[hd] at hG
   have hy:yielded ops a.tmps j=match a.tmps[t]? with | some (.bool b)=>some b | _=>none:=by
    rw[CB hl] at hd
    unfold yielded
    rw[hd]
    rfl
   have hw:Region.wanted o (yielded ops a.tmps)=(yielded ops a.tmps j == some want):=by simp[Region.wanted,hgd]
   rw[hw,hy]
   split at hG
   ·rename_i gs b hlk
    split at hG
    ·have h:=(hs.env _ _ (dD hlk)).1 rfl
     rw[h.1]
     split at hG
     ·rename_i hb;simp only[beq_iff_eq] at hb;subst hb hG;simp[XV.den,CV.den,Sc.den]
     ·rename_i hb;subst hG;simpa [XV.den,CV.den,Sc.den] using hb
    ·rename_i g r
     have h:=hs.env _ _ (dD hlk)
     simp only at h
     split at hG
     ·rename_i hb
      simp only[beq_iff_eq] at hb
      subst hb hG
      cases hg:bG K s.env (g :: r) with
      | true=>rw[(h.1 hg).1];simp[XV.den,CV.den,Sc.den,hg]
      | false=>rw[h.2 hg];simp[undef,hg]
     ·rename_i hb
      subst hG
      cases hg:bG K s.env (g :: r) with
      | true=>rw[(h.1 hg).1];simpa [XV.den,CV.den,Sc.den] using hb
      | false=>rw[h.2 hg];simp[undef]
   ·rename_i gs b hlk
    subst hG
    have h:=hs.env _ _ (dD hlk)
    simp only at h
    cases hg:bG K s.env gs with
    | true=>
     rw[((h.1 hg)).1]
     simp only
     unfold bG
     rw[hlk]
     cases gs with
     | nil=>simp[hA,aA,XV.den,CV.den,Sc.den]
     | cons g r=>simp[hA,aA,hg,XV.den,CV.den,Sc.den]
    | false=>
     rw[h.2 hg]
     simp only
     unfold bG
     rw[hlk]
     cases gs with
     | nil=>simp[bG] at hg
     | cons g r=>simp[hA,aA,hg,undef]
   ·rename_i gs hlk
    split at hG
    ·have h:=(hs.env _ _ (dD hlk)).1 rfl
     rw[h.1]
     subst hG
     simp[XV.den,CV.den,Sc.den,undef]
    ·rename_i g r
     have h:=hs.env _ _ (dD hlk)
     simp only at h
     subst hG
     cases hg:bG K s.env (g :: r) with
     | true=>rw[(h.1 hg).1];simp[XV.den,CV.den,Sc.den,undef]
     | false=>rw[h.2 hg];simp[undef]
   ·subst hG;trivial
theorem kX: ∀ {l:List Bool} {p:Prop},Mw l p→(∀ b,b∈l→b=true)∧p
 | [],_,h=>⟨fun b hb=>by simp at hb,h⟩
 | x :: r,_,h=>by
  obtain⟨h1,h2⟩:=h
  obtain⟨h3,h4⟩:=kX h2
  refine⟨fun b hb=>?_,h4⟩
  simp only[List.mem_cons] at hb
  rcases hb with rfl | hb
  ·exact h1
  ·exact h3 b hb
theorem oC (hA:K.A=aA) {g:Bool} (hg:g=true): ∀ {l:List Bool},(∀ b,b∈Jx K g l→b=true)→ ∀ b,b∈l→b=true
 | [],_,b,hb=>by simp at hb
 | x :: r,h,b,hb=>by
  simp only[List.mem_cons] at hb
  rcases hb with rfl | hb
  ·have:=h (K.A.imp g b) (by simp[Jx])
   rw[hA] at this
   simpa [aA,hg] using this
  ·exact oC hA hg (fun c hc=>h c (by simp[Jx,hc])) b hb
def Qk (K:Cx) (w0:World) (Wr:jH) (k:Exit→St→Prop):Exit→Act→World→Prop:=
 fun e a w=> ∃ s ρ n,k e s∧Sat K w0 Wr ρ n s a w
theorem kB (hA:K.A=aA) {env:List (Nat×Ent)} : ∀ {gs:List (Nat×Bool)},bG K env gs=true↔ ∀ g,g∈gs→ ∃ x,aN env g.1=some x∧x.v= .c (.s (.bool g.2))
 | []=>by simp[bG]
 |(t,b) :: r=>by
  constructor
  ·intro h g hg
   obtain⟨h1,x,z,h2,h3,h4⟩:=sQ hA h
   simp only[List.mem_cons] at hg
   rcases hg with rfl | hg
   ·exact⟨x,h2,by rw[h3,h4]⟩
   ·exact(kB hA).1 h1 g hg
  ·intro h
   obtain⟨x,h1,h2⟩:=h (t,b) (List.mem_cons_self ..)
   have ih:=(kB hA (env:=env) (gs:=r)).2 fun g hg=>h g (List.mem_cons_of_mem _ hg)
   obtain⟨g,v⟩:=x
   simp only at h2
   subst h2
   unfold bG
   rw[h1]
   cases r with
   | nil=>simp only;rw[hA];simp[aA]
   | cons y r=>simp only;rw[ih,hA];simp[aA]
def Mj (t:Nat) (b:Bool) (j:Nat) (e:Ent):Ent:=if j == t then⟨[], .c (.s (.tt b))⟩ else if e.gs.any (fun g=>g.1 == t&&g.2 == !b) then⟨[], .c (.s .un)⟩ else⟨e.gs.filter (fun g=> !(g.1 == t)),e.v⟩
theorem sO {t:Nat} {b:Bool} {j:Nat} {e':Ent} : ∀ {env:List (Nat×Ent)},(j,e')∈gH t b env→ ∃ e,(j,e)∈env∧e'=Mj t b j e
 | [],h=>by simp[gH] at h
 |(i,e) :: r,h=>by
  simp only[gH,List.mem_cons,Prod.mk.injEq] at h
  rcases h with ⟨rfl,rfl⟩ | h
  ·exact⟨e,List.mem_cons_self ..,rfl⟩
  ·obtain⟨e,h1,h2⟩:=sO h;exact⟨e,List.mem_cons_of_mem _ h1,h2⟩
theorem Ia {t:Nat} {b:Bool} {j:Nat} : ∀ {env:List (Nat×Ent)},aN (gH t b env) j=(aN env j).map (Mj t b j)
 | []=>rfl
 |(i,e) :: r=>by
  simp only[gH,aN]
  split
  ·rename_i h;simp only[beq_iff_eq] at h;subst h;rfl
  ·exact Ia
theorem oU {env:List (Nat×Ent)} {j:Nat} {e:Ent} {g:Nat×Bool} : ∀ {l:List (Nat×Ent)},lB env l=true→(j,e)∈l→g∈e.gs→ ∃ x z,aN env g.1=some x∧x.v= .c (.s (.bool z))
 | [],_,h,_=>by simp at h
 |(i,f) :: r,h,hm,hg=>by
  simp only[lB,Bool.and_eq_true,List.all_eq_true] at h
  simp only[List.mem_cons,Prod.mk.injEq] at hm
  rcases hm with ⟨_,rfl⟩ | hm
  ·have:=h.1 g hg
   split at this
   ·rename_i y z hl;exact⟨_,z,hl,rfl⟩
   ·cases this
  ·exact oU h.2 hm hg
theorem CL (hA:K.A=aA) (hs:Sat K w0 Wr ρ n s a w) {t:Nat} {z:Bool} (ht:aN s.env t=some ⟨[], .c (.s (.bool z))⟩) (hok:lB (gH t z s.env) (gH t z s.env)=true) :
  Sat K w0 Wr ρ n { s with env:=gH t z s.env } a w where
 size:=hs.size
 defers:=hs.defers
 env j e' he:=by
  obtain⟨e,h1,h2⟩:=sO he
  have h:=hs.env j e h1
  by_cases hj:j=t
  ·subst hj
   have hm:=hs.env j _ (dD ht)
   simp only[Mj,beq_self_eq_true,if_true] at h2
   subst h2
   exact⟨fun _=>⟨(hm.1 rfl).1,fun _ _=>rfl⟩,fun hf=>by simp[bG] at hf⟩
  ·have hj':(j == t)=false:=by simp[hj]
   simp only[Mj,hj',Bool.false_eq_true,if_false] at h2
   split at h2
   ·rename_i hany
    subst h2
    simp only[List.any_eq_true,Bool.and_eq_true,beq_iff_eq] at hany
    obtain⟨g,g1,g2,g3⟩:=hany
    have hf:bG K s.env e.gs=false:=by
     cases hg:bG K s.env e.gs with
     | false=>rfl
     | true=>
      obtain⟨x,h3,h4⟩:=(kB hA).1 hg g g1
      rw[g2,ht] at h3
      simp only[Option.some.injEq] at h3
      subst h3
      simp only[XV.c.injEq,CV.s.injEq,Sc.bool.injEq] at h4
      rw[g3] at h4
      cases z <;> cases h4
    exact⟨fun _=>⟨h.2 hf,fun _ _=>rfl⟩,fun hf=>by simp[bG] at hf⟩
   ·rename_i hany
    subst h2
    have heq:bG K (gH t z s.env) (e.gs.filter fun g=> !(g.1 == t))=bG K s.env e.gs:=by
     rw[Bool.eq_iff_iff,kB hA,kB hA]
     constructor
     ·intro hh g hg
      by_cases hgt:g.1=t
      ·refine⟨_,by rw[hgt];exact ht,?_⟩
       simp only[XV.c.injEq,CV.s.injEq,Sc.bool.injEq]
       simp only[List.any_eq_true,not_exists,not_and,Bool.and_eq_true,beq_iff_eq] at hany
       have:=hany g hg hgt
       cases z <;> cases hq:g.2 <;> simp_all
      ·obtain⟨x,h3,h4⟩:=hh g (by simp[hg,hgt])
       rw[Ia] at h3
       cases hl:aN s.env g.1 with
       | none=>rw[hl] at h3;simp at h3
       | some y=>
        rw[hl] at h3
        simp only[Option.map_some,Option.some.injEq] at h3
        subst h3
        have hgt':(g.1 == t)=false:=by simp[hgt]
        simp only[Mj,hgt',Bool.false_eq_true,if_false] at h4
        split at h4
        ·cases h4
        ·exact⟨y,rfl,h4⟩
     ·intro hh g hg
      simp only[List.mem_filter,Bool.not_eq_true',beq_eq_false_iff_ne] at hg
      obtain⟨x,h3,h4⟩:=hh g hg.1
      obtain⟨x',z',h5,h6⟩:=oU (g:=g) hok he (by simp[hg.1,hg.2])
      refine⟨x',h5,?_⟩
      rw[Ia,h3] at h5
      simp only[Option.map_some,Option.some.injEq] at h5
      subst h5
      have hgt':(g.1 == t)=false:=by simp[hg.2]
      simp only[Mj,hgt',Bool.false_eq_true,if_false] at h6 ⊢
      split
      ·rename_i hx;rw[if_pos hx] at h6;cases h6
      ·exact h4
    simp only
    rw[heq]
    exact h
 hs:=hs.hs
 lt:=hs.lt
theorem kL (hA:K.A=aA) {full:List Oper} {o:Oper} {k:St→Prop} : ∀ (m:Nat) (s:St),wJ K full o m s k→Sat K w0 Wr ρ n s a w→ ∃ s',Sat K w0 Wr ρ n s' a w∧k s'
 | 0,_,h,_=>h.elim
 | m+1,s,h,hs=>by
  simp only[wJ] at h
  split at h
  ·split at h
   ·split at h
    ·exact⟨s,hs,h⟩
    ·split at h
     ·rename_i t hg
      split at h
      ·rename_i z ht
       split at h
       ·rename_i h1 h2
        cases z with
        | true=>exact kL hA m _ (h.1 rfl) (CL hA hs ht h1)
        | false=>exact kL hA m _ (h.2 rfl) (CL hA hs ht h2)
       ·exact h.elim
      ·exact h.elim
     ·exact h.elim
   ·exact h.elim
  ·exact⟨s,hs,h⟩
theorem fD (hA:K.A=aA) (hT:TOK P K.T) (hC:COK P K.C) {ops:Array Oper} {full:List Oper} (hl:ops.toList=full) {k:St→Prop} {Q:Exit→Act→World→Prop}
  (hQ: ∀ s,k s→ ∀ ρ n a w,Sat K w0 Wr ρ n s a w→Q .normal a w): ∀ (l:List Oper) (s:St),rL K full l s k→ ∀ ρ n a w,Sat K w0 Wr ρ n s a w→wpList P ops Q l a w
 | [],s,h,ρ,n,a,w,hs=>hQ s h ρ n a w hs
 | o :: rest,s,h,ρ,n,a,w,hs=>by
  simp only[rL] at h
  obtain⟨s,hs,h⟩:=kL hA _ _ h hs
  simp only[wpList]
  split at h
  ·exact h.elim
  ·rename_i heq
   have hgd:=jN hA hs hl o heq
   simp only at hgd
   rw[hgd]
   simp only[Bool.false_eq_true,if_false]
   split at h
   ·rename_i hok
    obtain⟨ρ',n',h'⟩:=yU (gs:=[]) hs rfl hok (r:=⟨[], .c (.s .un),[],[]⟩) (v:=undef) (w':=w) (Did.pure (v:= .c (.s .un)) hs.hs fun _ _=>rfl)
    exact fD hA hT hC hl hQ rest _ h ρ' n' _ _ h'
   ·exact h.elim
  ·rename_i heq
   have hgd:=jN hA hs hl o heq
   simp only at hgd
   rw[hgd]
   simp only[if_true]
   split at h
   ·rename_i r hr
    split at h
    ·rename_i hok
     obtain⟨h1,h2⟩:=kX h
     refine .inl (Res.wp (nY hA hT hC hs rfl hr h1) fun v w' hd=>?_)
     obtain⟨ρ',n',h'⟩:=yU (gs:=[]) hs rfl hok hd
     exact fD hA hT hC hl hQ rest _ h2 ρ' n' _ _ h'
    ·exact h.elim
   ·exact h.elim
  ·rename_i gs heq
   have hgd:=jN hA hs hl o heq
   simp only at hgd
   split at h
   ·rename_i r hr
    split at h
    ·rename_i hnew hwr
     split at h
     ·rename_i hok
      obtain⟨h1,h2⟩:=kX h
      rw[hgd]
      cases hg:bG K s.env gs with
      | true=>
       simp only[if_true]
       refine .inl (Res.wp (nY hA hT hC hs hg hr (oC hA hg h1)) fun v w' hd=>?_)
       obtain⟨ρ',n',h'⟩:=yU hs hg hok hd
       exact fD hA hT hC hl hQ rest _ h2 ρ' n' _ _ h'
      | false=>
       simp only[Bool.false_eq_true,if_false]
       exact fD hA hT hC hl hQ rest _ h2 ρ n _ _ (Hu hs hg hok hnew hwr)
     ·exact h.elim
    ·exact h.elim
   ·exact h.elim
theorem Ni {dst:Option Nat} {r:FR} : ∀ b,b∈r.ob→b∈(knV K dst r).ob:=by
 intro b hb
 unfold knV
 split
 ·split
  ·split
   ·exact List.mem_cons_of_mem _ hb
   ·exact hb
  ·exact hb
 ·exact hb
theorem JW (hA:K.A=aA) {dst:Option Nat} {r r':FR} (e:knV K dst r=r') (hob: ∀ b,b∈r'.ob→b=true) {h:bT} {m:Nat} {v:Value} {w':World} (hd:Did w0 Wr ρ h n m w r v w'):Did w0 Wr ρ h n m w r' v w':=by
 unfold knV at e
 split at e
 ·split at e
  ·split at e
   ·rename_i z hz
    subst e
    have h1:=hob _ (List.mem_cons_self ..)
    rw[hA] at h1
    have h1:=eq_of_beq h1
    obtain⟨ρ',d1,d2,d3,d4⟩:=hd
    refine⟨ρ',d1,?_,?_,d4⟩
    ·rw[d2,hz,h1];rfl
    ·intro ρ'' _;rfl
   ·subst e;exact hd
  ·subst e;exact hd
 ·subst e;exact hd
theorem qF {gs:List (Nat×Bool)} (hA:K.A=aA) (hT:TOK P K.T) (hC:COK P K.C) (hs:Sat K w0 Wr ρ n s a w) (hg:bG K s.env gs=true) {o:Oper} {r:FR} (e:rV K s gs o=some r) (hob: ∀ b,b∈r.ob→b=true) :
  Res P (Did w0 Wr ρ s.heap n s.nid w r) ((execOp a.eval o).run P w):=by
 unfold rV at e
 split at e
 ·rename_i r0 h0
  simp only[Option.some.injEq] at e
  subst e
  exact(nY hA hT hC hs hg h0 fun b hb=>hob b (Ni b hb)).mono fun v w' hd=>JW hA rfl hob hd
 ·cases e
theorem oB {t:Nat} {b:Bool} {env:List (Nat×Ent)} : ∀ gs,bG (K.know t b) env gs=bG K env gs
 | []=>rfl
 |(i,c) :: r=>by
  unfold bG
  rw[oB r]
  rfl
theorem Am {t:Nat} {b:Bool} (hs:Sat K w0 Wr ρ n s a w):Sat (K.know t b) w0 Wr ρ n s a w:=
 ⟨hs.size,hs.defers,fun i e he=>by rw[oB];exact hs.env i e he,hs.hs,hs.lt⟩
theorem tI {t:Nat} {b:Bool} (hs:Sat (K.know t b) w0 Wr ρ n s a w):Sat K w0 Wr ρ n s a w:=
 ⟨hs.size,hs.defers,fun i e he=>by have:=hs.env i e he;rw[oB] at this;exact this,hs.hs,hs.lt⟩
theorem gO {t:Nat} {e:Ent} : ∀ {env:List (Nat×Ent)},(t,e)∈mJ env→(t,e)∈env∧e.gs=[]
 | [],h=>by simp[mJ] at h
 |(j,f) :: r,h=>by
  simp only[mJ] at h
  split at h
  ·rename_i hf
   simp only[List.mem_cons,Prod.mk.injEq] at h
   rcases h with ⟨rfl,rfl⟩ | h
   ·exact⟨List.mem_cons_self ..,hf⟩
   ·obtain⟨h1,h2⟩:=gO h;exact⟨List.mem_cons_of_mem _ h1,h2⟩
  ·obtain⟨h1,h2⟩:=gO h;exact⟨List.mem_cons_of_mem _ h1,h2⟩
theorem p7 (hs:Sat K w0 Wr ρ n s a w):Sat K w0 Wr ρ n { s with env:=mJ s.env } a w where
 size:=hs.size
 defers:=hs.defers
 env t e he:=by
  obtain⟨h1,h2⟩:=gO he
  have h:=hs.env t e h1
  rw[h2] at h ⊢
  exact⟨fun _=>h.1 rfl,fun hf=>by simp[bG] at hf⟩
 hs:=hs.hs
 lt:=hs.lt
theorem D7 {o:Option (List Nat)} {env:List (Nat×Ent)} {x:Nat×Ent} (h:x∈BA o env):x∈env:=by
 cases o with
 | none=>exact h
 | some l=>exact(List.mem_filter.1 h).1
theorem fK {o:Option (List Nat)} (hs:Sat K w0 Wr ρ n s a w):Sat K w0 Wr ρ n { s with env:=BA o (mJ s.env) } a w where
 size:=hs.size
 defers:=hs.defers
 env t e he:=by
  obtain⟨h1,h2⟩:=gO (D7 he)
  have h:=hs.env t e h1
  rw[h2] at h ⊢
  exact⟨fun _=>h.1 rfl,fun hf=>by simp[bG] at hf⟩
 hs:=hs.hs
 lt:=hs.lt
end
theorem gB: ∀ (l:List Blk) (h:bT) (m id:Nat),aN (rT h m l) id=if m≤id∧id < m+l.length then l[id - m]? else aN h id
 | [],h,m,id=>by
  simp only[rT,List.length_nil,Nat.add_zero]
  rw[if_neg (by omega)]
 | b :: r,h,m,id=>by
  simp only[rT,aN,List.length_cons]
  by_cases he:m=id
  ·subst he
   simp
  ·rw[if_neg (by simpa using he),gB r h (m+1) id]
   by_cases h1:m+1≤id∧id < m+1+r.length
   ·rw[if_pos h1,if_pos (by omega),show id - m=(id - (m+1))+1 from by omega,List.getElem?_cons_succ]
   ·rw[if_neg h1,if_neg (by omega)]
theorem kE {α:Type} {F:List α} {g:α} {m:Nat} (h:F[m]? =some g):m < F.length:=by
 rcases Nat.lt_or_ge m F.length with hlt | hge
 ·exact hlt
 ·rw[List.getElem?_eq_none hge] at h;simp at h
theorem Ib {α:Type} : ∀ {l:List (Nat×α)} {i:Nat} {b:α},(l.map (·.1)).Nodup→(i,b)∈l→ ∃ c,aN l i=some c
 | [],_,_,_,h=>by simp at h
 |(j,c) :: r,i,b,hn,h=>by
  simp only[aN]
  split
  ·exact⟨c,rfl⟩
  ·rename_i hj
   simp only[List.mem_cons,Prod.mk.injEq] at h
   rcases h with ⟨rfl,_⟩ | h
   ·simp at hj
   ·exact Ib (by simp only[List.map_cons,List.nodup_cons] at hn;exact hn.2) h
def mF:List cL→Nat→Nat→Prop
 | [],lo,hi=>lo=hi
 | f :: r,lo,hi=>f.id=lo∧mF r (lo+f.new.length) hi
theorem mF.le: ∀ {F:List cL} {lo hi:Nat},mF F lo hi→lo≤hi
 | [],_,_,h=>by simp only[mF] at h;omega
 | f :: r,lo,hi,h=>by have:=mF.le h.2;omega
theorem mF.push: ∀ {F:List cL} {lo hi:Nat} {f:cL},mF F lo hi→f.id=hi→mF (F++[f]) lo (hi+f.new.length)
 | [],lo,hi,f,h,hf=>by simp only[mF] at h;subst h;exact⟨hf,by simp[mF]⟩
 | g :: r,lo,hi,f,h,hf=>⟨h.1,mF.push h.2 hf⟩
theorem mF.get: ∀ {F:List cL} {lo hi:Nat},mF F lo hi→ ∀ {m:Nat} {f:cL},F[m]? =some f→lo≤f.id∧f.id+f.new.length≤hi
 | [],_,_,_,m,f,h=>by simp at h
 | g :: r,lo,hi,h,m,f,hf=>by
  cases m with
  | zero=>
   simp only[List.getElem?_cons_zero,Option.some.injEq] at hf
   subst hf
   have:=mF.le h.2
   exact⟨by have:=h.1;omega,by have:=h.1;omega⟩
  | succ m=>
   obtain⟨h1,h2⟩:=mF.get h.2 (by simpa using hf)
   exact⟨by omega,h2⟩
theorem mF.apart: ∀ {F:List cL} {lo hi:Nat},mF F lo hi→ ∀ {m k:Nat} {f g:cL},F[m]? =some f→F[k]? =some g→m < k→f.id+f.new.length≤g.id
 | [],_,_,_,m,k,f,g,h,_,_=>by simp at h
 | x :: r,lo,hi,h,m,k,f,g,hf,hg,hlt=>by
  cases k with
  | zero=>omega
  | succ k=>
   cases m with
   | zero=>
    simp only[List.getElem?_cons_zero,Option.some.injEq] at hf
    subst hf
    have:=(mF.get h.2 (show r[k]? =some g by simpa using hg)).1
    have:=h.1
    omega
   | succ m=>exact mF.apart h.2 (by simpa using hf) (by simpa using hg) (by omega)
theorem gS: ∀ (l h:bT) (i:Nat),(l.map (·.1)).Nodup→aN (oS h l) i=match aN l i with
  | some b=>(aN h i).map fun _=>b
  | none=>aN h i
 | [],h,i,_=>rfl
 |(j,b) :: r,h,i,hn=>by
  simp only[List.map_cons,List.nodup_cons] at hn
  simp only[oS,aN]
  rw[gS r (Ei h j b) i hn.2]
  by_cases hij:j=i
  ·subst hij
   have:aN r j=none:=by
    cases hq:aN r j with
    | none=>rfl
    | some c=>exact absurd (List.mem_map.2 ⟨_,dD hq,rfl⟩) hn.1
   simp only[beq_self_eq_true,if_true,this,cO]
  ·have hne:(j == i)=false:=by simpa using hij
   simp only[hne,Bool.false_eq_true,if_false,cO,if_neg (fun e=>hij (Eq.symm e))]
theorem gL (l:List Nat): ∀ (h:bT) (i:Nat) (b:Blk),aN (gJ l h) i=some b↔i∈l∧aN h i=some b
 | [],i,b=>by simp[gJ,aN]
 |(j,c) :: r,i,b=>by
  simp only[gJ,aN]
  split
  ·rename_i hc
   simp only[aN]
   by_cases hj:j=i
   ·subst hj
    simp only[beq_self_eq_true,if_true]
    exact⟨fun h=>⟨by simpa using hc,h⟩,fun h=>h.2⟩
   ·have:(j == i)=false:=by simpa using hj
    simp only[this,Bool.false_eq_true,if_false]
    exact gL l r i b
  ·rename_i hc
   rw[gL l r i b]
   by_cases hj:j=i
   ·subst hj
    simp only[beq_self_eq_true,if_true]
    have:j∉l:=by simpa using hc
    exact⟨fun h=>absurd h.1 this,fun h=>absurd h.1 this⟩
   ·have:(j == i)=false:=by simpa using hj
    simp only[this,Bool.false_eq_true,if_false]
def eff (f:cL) (id:Nat) (x:Option Blk):Option Blk:=
 if f.id≤id∧id < f.id+f.new.length then f.new[id - f.id]? else match aN f.wr id with
  | some b=>x.map fun _=>b
  | none=>x
def lK:List cL→Nat→(Nat→Bool)→Nat→Option Blk→Option Blk
 | [],_,_,_,x=>x
 | f :: r,j,c,id,x=>lK r (j+1) c id (match c j with
  | true=>eff f id x
  | false=>x)
theorem gT: ∀ {F:List cL},(∀ (m:Nat) (f:cL),F[m]? =some f→(f.wr.map (·.1)).Nodup)→ ∀ (h:bT) (j:Nat) (c:Nat→Bool) (id:Nat),aN (fE h F j c) id=lK F j c id (aN h id)
 | [],_,h,j,c,id=>rfl
 | f :: r,hn,h,j,c,id=>by
  simp only[fE,lK]
  rw[gT (F:=r) (fun m g hg=>hn (m+1) g (by simpa using hg))]
  congr 1
  cases hc:c j with
  | false=>rfl
  | true=>
   show aN (rT (oS h f.wr) f.id f.new) id=eff f id (aN h id)
   rw[gB,gS _ _ _ (hn 0 f (by simp))]
   rfl
def xC (f:cL) (id:Nat):Prop:= ¬ (f.id≤id∧id < f.id+f.new.length)∧aN f.wr id=none
theorem xC.eff {f:cL} {id:Nat} (h:xC f id) (x:Option Blk):eff f id x=x:=by
 unfold Go.Eng.eff
 rw[if_neg h.1,h.2]
theorem lA {id:Nat} : ∀ {F:List cL} {j:Nat} {c d:Nat→Bool},(∀ (m:Nat) (f:cL),F[m]? =some f→xC f id∨c (j+m)=d (j+m))→ ∀ x,lK F j c id x=lK F j d id x
 | [],_,_,_,_,_=>rfl
 | f :: r,j,c,d,h,x=>by
  simp only[lK]
  rw[lA (F:=r) (j:=j+1) (c:=c) (d:=d) fun m g hg=>by
   have:=h (m+1) g (by simpa using hg)
   rw[show j+(m+1)=j+1+m from by omega] at this;exact this]
  congr 1
  rcases h 0 f (by simp) with hq | he
  ·cases c j <;> cases d j <;> simp[hq.eff]
  ·rw[Nat.add_zero] at he;rw[he]
theorem n6 {id:Nat} {F:List cL} {j:Nat} {c:Nat→Bool} (h: ∀ (m:Nat) (f:cL),F[m]? =some f→c (j+m)=true→xC f id) (x:Option Blk):lK F j c id x=x:=by
 rw[lA (d:=fun _=>false) fun m f hf=>by
  cases hc:c (j+m) with
  | true=>exact .inl (h m f hf hc)
  | false=>exact .inr rfl]
 clear h
 induction F generalizing j with
 | nil=>rfl
 | cons f r ih=>simp only[lK];exact ih
def nR (E:Nat→Bool) (j:Nat):Nat→Bool:=fun i=>i == j||E i
theorem jI {E:Nat→Bool} {j i:Nat} (h:E i=true):nR E j i=true:=by simp[nR,h]
theorem tR {E:Nat→Bool} {j:Nat} :nR E j j=true:=by simp[nR]
theorem iX {E:Nat→Bool} {j i:Nat} (h:nR E j i=true):i=j∨E i=true:=by simpa [nR] using h
theorem xD {E:Nat→Bool} {j i:Nat} (h:i≠j):nR E j i=E i:=by simp[nR,h]
theorem vV {id:Nat} {f:cL} : ∀ {F:List cL} {m k:Nat} {c:Nat→Bool},F[m]? =some f→c (k+m)=false→(∀ (m':Nat) (g:cL),m < m'→F[m']? =some g→c (k+m')=true→xC g id)→
  ∀ x,lK F k (nR c (k+m)) id x=eff f id (lK F k c id x)
 | [],m,_,_,h,_,_,_=>by simp at h
 | g :: r,0,k,c,h,hc,hq,x=>by
  simp only[List.getElem?_cons_zero,Option.some.injEq] at h
  subst h
  simp only[Nat.add_zero] at hc
  simp only[lK,Nat.add_zero,tR,hc]
  rw[n6 fun m g hg ha=>?_,n6 fun m g hg ha=>?_]
  ·exact hq (m+1) g (by omega) (by simpa using hg) (by rw[show k+(m+1)=k+1+m from by omega];exact ha)
  ·rw[xD (by omega)] at ha
   exact hq (m+1) g (by omega) (by simpa using hg) (by rw[show k+(m+1)=k+1+m from by omega];exact ha)
 | g :: r,m+1,k,c,h,hc,hq,x=>by
  simp only[lK]
  rw[show nR c (k+(m+1)) k=c k from xD (by omega),show k+(m+1)=k+1+m from by omega]
  exact vV (F:=r) (by simpa using h) (by rw[← hc];congr 1;omega) (fun m' g' h1 h2 h3=>hq (m'+1) g' (by omega) (by simpa using h2) (by rw[← h3];congr 1;omega)) _
theorem VG {id:Nat} : ∀ {F:List cL} {j:Nat} {c:Nat→Bool} {x:Option Blk} {b:Blk},lK F j c id x=some b→(∃ b',x=some b')∨ ∃ m f,F[m]? =some f∧c (j+m)=true∧f.id≤id∧id < f.id+f.new.length
 | [],_,_,x,b,h=> .inl ⟨b,h⟩
 | f :: r,j,c,x,b,h=>by
  simp only[lK] at h
  rcases VG h with ⟨b',hb⟩ | ⟨m,g,h1,h2,h3⟩
  ·cases hc:c j with
   | false=>rw[hc] at hb;exact .inl ⟨b',hb⟩
   | true=>
    rw[hc] at hb
    simp only[eff] at hb
    split at hb
    ·rename_i hr
     exact .inr ⟨0,f,by simp,by rw[Nat.add_zero];exact hc,hr⟩
    ·split at hb
     ·cases x with
      | none=>simp at hb
      | some y=>exact .inl ⟨y,rfl⟩
     ·exact .inl ⟨b',hb⟩
  ·exact .inr ⟨m+1,g,by simpa using h1,by rw[← h2];congr 1;omega,h3⟩
theorem sP {id:Nat} {P:Blk→Prop} : ∀ {F:List cL} {j:Nat} {c:Nat→Bool} {x:Option Blk} {b:Blk},lK F j c id x=some b→(∀ b',x=some b'→P b')→
  (∀ (m:Nat) (f:cL) (q:Nat) (b':Blk),F[m]? =some f→c (j+m)=true→f.new[q]? =some b'→f.id+q=id→P b')→(∀ (m:Nat) (f:cL) (b':Blk),F[m]? =some f→c (j+m)=true→aN f.wr id=some b'→P b')→P b
 | [],_,_,x,b,h,h0,_,_=>h0 b h
 | f :: r,j,c,x,b,h,h0,h1,h2=>by
  simp only[lK] at h
  refine sP h (fun b' hb=>?_) (fun m g q b' hg hc=>h1 (m+1) g q b' (by simpa using hg) (by rw[← hc];congr 1;omega)) (fun m g b' hg hc=>h2 (m+1) g b' (by simpa using hg) (by rw[← hc];congr 1;omega))
  cases hc:c j with
  | false=>rw[hc] at hb;exact h0 b' hb
  | true=>
   rw[hc] at hb
   simp only[eff] at hb
   split at hb
   ·rename_i hr
    exact h1 0 f _ b' (by simp) (by rw[Nat.add_zero];exact hc) hb (by omega)
   ·split at hb
    ·rename_i y hy
     cases x with
     | none=>simp at hb
     | some z=>
      simp only[Option.map_some,Option.some.injEq] at hb
      subst hb
      exact h2 0 f y (by simp) (by rw[Nat.add_zero];exact hc) hy
    ·exact h0 b' hb
def pU (F:List cL):Prop:= ∀ (m:Nat) (f:cL),F[m]? =some f→ ∀ i,f.cl.testBit i=true→i < m
structure FOK (heap:bT) (F:List cL) (lo hi:Nat):Prop where
 ord:mF F lo hi
 bits:pU F
 hb: ∀ id b,aN heap id=some b→id < lo
 nd: ∀ (m:Nat) (f:cL),F[m]? =some f→(f.wr.map (·.1)).Nodup
 wt: ∀ (m:Nat) (f:cL) (i:Nat) (b:Blk),F[m]? =some f→aN f.wr i=some b→i∈f.tch
 cmp: ∀ (m k:Nat) (f g:cL),F[m]? =some f→F[k]? =some g→m < k→g.cl.testBit m=true∨(∀ i b,aN f.wr i=some b→i∉g.tch)∧(∀ i b,aN g.wr i=some b→i∉f.tch)
 prs: ∀ (k:Nat) (g:cL) (i:Nat) (b:Blk),F[k]? =some g→aN g.wr i=some b→ ∃ c,aN (fE heap F 0 g.cl.testBit) i=some c∧c.own=true
theorem FOK.from {heap:bT} {F:List cL} {lo hi:Nat} (hK:FOK heap F lo hi) {c:Nat→Bool} {id:Nat} {b:Blk} (h:aN (fE heap F 0 c) id=some b) :
  id < lo∨ ∃ m f,F[m]? =some f∧c m=true∧f.id≤id∧id < f.id+f.new.length:=by
 rw[gT hK.nd] at h
 rcases VG h with ⟨b',hb⟩ | ⟨m,f,h1,h2,h3⟩
 ·exact .inl (hK.hb id b' hb)
 ·exact .inr ⟨m,f,h1,by simpa using h2,h3⟩
theorem FOK.apart {heap:bT} {F:List cL} {lo hi:Nat} (hK:FOK heap F lo hi) {m k:Nat} {f g:cL} (hf:F[m]? =some f) (hg:F[k]? =some g) (hne:m≠k) {id:Nat} (h:f.id≤id∧id < f.id+f.new.length): ¬ (g.id≤id∧id < g.id+g.new.length):=by
 rcases Nat.lt_or_ge m k with hlt | hge
 ·have:=mF.apart hK.ord hf hg hlt;omega
 ·have:=mF.apart hK.ord hg hf (by omega);omega
theorem FOK.sees {heap:bT} {F:List cL} {lo hi:Nat} (hK:FOK heap F lo hi) {E:Nat→Bool} {j:Nat} {f:cL} (hf:F[j]? =some f) (hE:E j=false)
  (hcl: ∀ i,f.cl.testBit i=true→E i=true) (hEc: ∀ (m:Nat) (f:cL),F[m]? =some f→E m=true→ ∀ i,f.cl.testBit i=true→E i=true) {id:Nat} {b:Blk}
  (h:aN (gJ f.tch (fE heap F 0 f.cl.testBit)) id=some b):aN (fE heap F 0 E) id=some b:=by
 rw[gL] at h
 obtain⟨ht,h⟩:=h
 have hfrom:=hK.from h
 rw[gT hK.nd] at h ⊢
 rw[← h]
 refine lA (fun m g hg=>?_) _
 rw[Nat.zero_add]
 cases hm:E m with
 | false=>
  right
  cases hc:f.cl.testBit m with
  | false=>rfl
  | true=>rw[hcl m hc] at hm;cases hm
 | true=>
  cases hc:f.cl.testBit m with
  | true=>exact .inr rfl
  | false=>
   left
   have hne:m≠j:=fun e=>by rw[e,hE] at hm;cases hm
   refine⟨fun hr=>?_,?_⟩
   ·rcases hfrom with hlo | ⟨m',f',h1,h2,h3⟩
    ·have:=(mF.get hK.ord hg).1;omega
    ·exact hK.apart h1 hg (fun e=>by rw[e,hc] at h2;cases h2) h3 hr
   ·cases hw:aN g.wr id with
    | none=>rfl
    | some c=>
     exfalso
     rcases Nat.lt_or_ge m j with hlt | hge
     ·rcases hK.cmp m j g f hg hf hlt with h1 | ⟨h1,_⟩
      ·rw[hc] at h1;cases h1
      ·exact h1 id c hw ht
     ·rcases hK.cmp j m f g hf hg (by omega) with h1 | ⟨_,h1⟩
      ·rw[hEc m g hg hm j h1] at hE;cases hE
      ·exact h1 id c hw ht
theorem FOK.more {heap:bT} {F:List cL} {lo hi:Nat} (hK:FOK heap F lo hi) {E:Nat→Bool} {j:Nat} {f:cL} (hf:F[j]? =some f) (hE:E j=false)
  (hEc: ∀ (m:Nat) (f:cL),F[m]? =some f→E m=true→ ∀ i,f.cl.testBit i=true→E i=true) (id:Nat) :
  aN (fE heap F 0 (nR E j)) id=eff f id (aN (fE heap F 0 E) id):=by
 rw[gT hK.nd,gT hK.nd]
 have hj0:nR E j=nR E (0+j):=by rw[Nat.zero_add]
 rw[hj0]
 refine Classical.byCases (p:=xC f id) (fun hq=>?_) (fun hq=>vV hf (by rw[Nat.zero_add];exact hE) (fun m g hlt hg hm=>?_) _)
 ·rw[hq.eff]
  refine lA (fun m g hg=>?_) _
  simp only[Nat.zero_add]
  by_cases hm:m=j
  ·subst hm;rw[hf] at hg;simp only[Option.some.injEq] at hg;subst hg;exact .inl hq
  ·exact .inr (xD hm)
 ·rw[Nat.zero_add] at hm
  have hjm:g.cl.testBit j=false:=by
   cases hc:g.cl.testBit j with
   | false=>rfl
   | true=>rw[hEc m g hg hm j hc] at hE;cases hE
  have hcmp:=hK.cmp j m f g hf hg hlt
  rw[hjm] at hcmp
  simp only[Bool.false_eq_true,false_or] at hcmp
  by_cases hr:f.id≤id∧id < f.id+f.new.length
  ·refine⟨hK.apart hf hg (by omega) hr,?_⟩
   cases hw:aN g.wr id with
   | none=>rfl
   | some c=>
    exfalso
    obtain⟨c',hc',_⟩:=hK.prs m g id c hg hw
    rcases hK.from hc' with h1 | ⟨m',f',h1,h2,h3⟩
    ·have:=(mF.get hK.ord hf).1;omega
    ·exact hK.apart h1 hf (fun e=>by rw[e,hjm] at h2;cases h2) h3 hr
  ·cases hw:aN f.wr id with
   | none=>exact absurd ⟨hr,hw⟩ hq
   | some c=>
    refine⟨fun hrg=>?_,?_⟩
    ·obtain⟨c',hc',_⟩:=hK.prs j f id c hf hw
     rcases hK.from hc' with h1 | ⟨m',f',h1,h2,h3⟩
     ·have:=(mF.get hK.ord hg).1;omega
     ·have:=hK.bits j f hf m' h2
      exact hK.apart h1 hg (by omega) h3 hrg
    ·cases hwg:aN g.wr id with
     | none=>rfl
     | some d=>exact absurd (hK.wt j f id c hf hw) (hcmp.2 id d hwg)
def fI (n0:Ids) (F:List cL) (c:Nat→Bool):Ids:=fun i=>n0 i∨ ∃ m f,F[m]? =some f∧c m=true∧f.id≤i∧i < f.id+f.new.length
theorem dZ {n0:Ids} {F:List cL} {c d:Nat→Bool} (h: ∀ m,c m=true→d m=true) {i:Nat} (hi:fI n0 F c i):fI n0 F d i:=by
 rcases hi with hi | ⟨m,f,h1,h2,h3⟩
 ·exact .inl hi
 ·exact .inr ⟨m,f,h1,h _ h2,h3⟩
def cl1 (f:cL) (m:Nat):Nat→Bool:=fun i=>i == m||f.cl.testBit i
section
variable {P:Program} {K:Cx} {w0:World} {Wr:jH}
structure B4 (K:Cx) (w0:World) (Wr:jH) (n0:Ids) (heap:bT) (envB envF:List (Nat×Ent)) (F:List cL) (ρ:Rho) (E:Nat→Bool) (a:Act) (w:World):Prop where
 size:a.tmps.size=K.N
 defers:a.defers=[]
 base: ∀ t e,(t,e)∈envB→(∀ (m:Nat) (g:cL),F[m]? =some g→g.dst=some t→E m=false)→a.tmps[t]? =some (e.v.den ρ)∧nT n0 ρ e.v
 fact: ∀ m f t e,F[m]? =some f→E m=true→f.dst=some t→(t,e)∈envF→(bG K envF e.gs=true→a.tmps[t]? =some (e.v.den ρ)∧nT (fI n0 F (cl1 f m)) ρ e.v)∧(bG K envF e.gs=false→a.tmps[t]? =some undef)
 hs:HS w0 Wr ρ (fE heap F 0 E) (fI n0 F E) w
 bstb: ∀ (m:Nat) (f:cL) (q:Nat) (b:Blk),F[m]? =some f→E m=true→f.new[q]? =some b→b.stb (fI n0 F (cl1 f m)) ρ
 wstb: ∀ (m:Nat) (f:cL) (i:Nat) (b:Blk),F[m]? =some f→E m=true→aN f.wr i=some b→b.stb (fI n0 F (cl1 f m)) ρ
 hb: ∀ (id:Nat) (b:Blk),aN heap id=some b→n0 id∧b.stb n0 ρ
 cl: ∀ (m:Nat) (f:cL),F[m]? =some f→E m=true→ ∀ i,f.cl.testBit i=true→E i=true
 inn: ∀ i,Wr.ids i→n0 i
structure OpD (K:Cx) (full:List Oper) (heap:bT) (envB envF:List (Nat×Ent)) (F:List cL) (j:Nat) (o:Oper) (f:cL) (envj:List (Nat×Ent)) (ent:Ent):Prop where
 sub: ∀ t e,(t,e)∈envj→((t,e)∈envB∧ ∀ (m:Nat) (g:cL),F[m]? =some g→g.dst=some t→m=j∨g.cl.testBit j=true)∨
  ((t,e)∈envF∧(∃ m g,F[m]? =some g∧g.dst=some t∧f.cl.testBit m=true)∧bG K envj e.gs=bG K envF e.gs)
 dst:f.dst=o.dst
 entry: ∀ t,o.dst=some t→t < K.N∧(t,ent)∈envF∧(∀ e,(t,e)∈envF→e=ent)∧bG K envj ent.gs=bG K envF ent.gs
 bits: ∀ i,f.cl.testBit i=true→i < j
 trans: ∀ m g,F[m]? =some g→f.cl.testBit m=true→ ∀ i,g.cl.testBit i=true→f.cl.testBit i=true
 run:match kF full ⟨envj,gJ f.tch (fE heap F 0 f.cl.testBit),f.id⟩ o with
  | .bad=>False
  | .off=>f.new=[]∧f.wr=[]∧ent=⟨[], .c (.s .un)⟩
  | .on=> ∃ r,rV K ⟨envj,gJ f.tch (fE heap F 0 f.cl.testBit),f.id⟩ [] o=some r∧(∀ b,b∈r.ob→b=true)∧f.wr=r.wr∧f.new=r.new∧ent=⟨[],r.val⟩
  | .sym gs=> ∃ r,rV K ⟨envj,gJ f.tch (fE heap F 0 f.cl.testBit),f.id⟩ gs o=some r∧(bG K envj gs=true→ ∀ b,b∈r.ob→b=true)∧r.wr=[]∧r.new=[]∧f.wr=[]∧f.new=[]∧ent=⟨gs,r.val⟩∧o.dst≠none
theorem HS.part {ρ:Rho} {h h':bT} {n n':Ids} {w:World} (hs:HS w0 Wr ρ h n w) (hn: ∀ i,Wr.ids i→n' i) (hl: ∀ id b,aN h' id=some b→aN h id=some b∧n' id∧b.stb n' ρ):HS w0 Wr ρ h' n' w where
 one:=hs.one
 ok id b hb:=by obtain⟨h1,h2,h3⟩:=hl id b hb;exact⟨h2,(hs.ok id b h1).2.1,h3⟩
 sep i b j c hi hj:=hs.sep i b j c (hl i b hi).1 (hl j c hj).1
 wr i b x hi:=hs.wr i b x (hl i b hi).1
 org i b x hi:=hs.org i b x (hl i b hi).1
 frame:=hs.frame
 os:=hs.os
 tape:=hs.tape
 output:=hs.output
 drawn:=hs.drawn
 size:=hs.size
 ag:=hs.ag
 inn:=hn
variable {n0:Ids} {heap:bT} {envB envF:List (Nat×Ent)} {F:List cL} {ρ:Rho} {E:Nat→Bool} {a:Act} {w:World} {lo hi:Nat} {full:List Oper} {j:Nat} {o:Oper} {f:cL} {envj:List (Nat×Ent)} {ent:Ent}
theorem B4.sat (hI:B4 K w0 Wr n0 heap envB envF F ρ E a w) (hK:FOK heap F lo hi) (hn0: ∀ i,n0 i→i < lo) (hB: ∀ t e,(t,e)∈envB→e.gs=[]) (D:OpD K full heap envB envF F j o f envj ent) (hf:F[j]? =some f) (hE:E j=false) (hcl: ∀ i,f.cl.testBit i=true→E i=true) :
  Sat K w0 Wr ρ (fI n0 F f.cl.testBit) ⟨envj,gJ f.tch (fE heap F 0 f.cl.testBit),f.id⟩ a w where
 size:=hI.size
 defers:=hI.defers
 env t e he:=by
  rcases D.sub t e he with ⟨h2,h7⟩ | ⟨h1,⟨m,g,h4,h5,h6⟩,h3⟩
  ·obtain⟨g1,g2⟩:=hI.base t e h2 fun m g hm hd=>by
    rcases h7 m g hm hd with rfl | h8
    ·exact hE
    ·cases hEm:E m with
     | false=>rfl
     | true=>rw[hI.cl m g hm hEm j h8] at hE;cases hE
   rw[hB t e h2]
   exact⟨fun _=>⟨g1,g2.mono fun _=> .inl⟩,fun h=>by simp[bG] at h⟩
  ·rw[h3]
   obtain⟨g1,g2⟩:=hI.fact m g t e h4 (hcl m h6) h5 h1
   refine⟨fun hg=>⟨(g1 hg).1,(g1 hg).2.mono fun i=>dZ fun q hq=>?_⟩,g2⟩
   simp only[cl1,Bool.or_eq_true,beq_iff_eq] at hq
   rcases hq with rfl | hq
   ·exact h6
   ·exact D.trans m g h4 h6 q hq
 hs:=by
  refine hI.hs.part (fun i hi=> .inl (hI.inn i hi)) fun id b hl=>?_
  refine⟨hK.sees hf hE hcl hI.cl hl,?_⟩
  obtain⟨_,hl⟩:=(gL _ _ _ _).1 hl
  rw[gT hK.nd] at hl
  have hmono: ∀ m g,F[m]? =some g→f.cl.testBit m=true→ ∀ i,fI n0 F (cl1 g m) i→fI n0 F f.cl.testBit i:=fun m g h1 h2 i=>dZ fun q hq=>by
   simp only[cl1,Bool.or_eq_true,beq_iff_eq] at hq
   rcases hq with rfl | hq
   ·exact h2
   ·exact D.trans m g h1 h2 q hq
  refine⟨?_,sP (P:=fun b=>b.stb (fI n0 F f.cl.testBit) ρ) hl (fun b' h=>Blk.stb_move (hI.hb id b' h).2 (bZ.refl _ _) fun _=> .inl) (fun m g q b' h1 h2 h3 h4=>?_) (fun m g b' h1 h2 h3=>?_)⟩
  ·rcases VG hl with ⟨b',h⟩ | ⟨m,g,h1,h2,h3⟩
   ·exact .inl (hI.hb id b' h).1
   ·rw[Nat.zero_add] at h2;exact .inr ⟨m,g,h1,h2,h3⟩
  ·rw[Nat.zero_add] at h2
   exact Blk.stb_move (hI.bstb m g q b' h1 (hcl m h2) h3) (bZ.refl _ _) (hmono m g h1 h2)
  ·rw[Nat.zero_add] at h2
   exact Blk.stb_move (hI.wstb m g id b' h1 (hcl m h2) h3) (bZ.refl _ _) (hmono m g h1 h2)
 lt i hi':=by
  rcases hi' with hi' | ⟨m,g,h1,h2,h3,h4⟩
  ·have:=hn0 i hi'
   have:=(mF.get hK.ord hf).1
   show i < f.id
   omega
  ·have:=mF.apart hK.ord h1 hf (D.bits m h2)
   show i < f.id
   omega
theorem B4.step (hI:B4 K w0 Wr n0 heap envB envF F ρ E a w) (hE:E j=false)
  (D:OpD K full heap envB envF F j o f envj ent) (hf:F[j]? =some f) (hcl: ∀ i,f.cl.testBit i=true→E i=true)
  (hFd: ∀ m g t,F[m]? =some g→m≠j→o.dst=some t→g.dst≠some t)
  {ρ':Rho} {v:Value} {w':World} (ha:bZ (fI n0 F E) ρ ρ')
  (hv:(bG K envF ent.gs=true→v=ent.v.den ρ'∧nT (fI n0 F (cl1 f j)) ρ' ent.v)∧(bG K envF ent.gs=false→v=undef))
  (hnew: ∀ (q:Nat) (b:Blk),f.new[q]? =some b→b.stb (fI n0 F (cl1 f j)) ρ')
  (hwr: ∀ (i:Nat) (b:Blk),aN f.wr i=some b→b.stb (fI n0 F (cl1 f j)) ρ')
  (hhs:HS w0 Wr ρ' (fE heap F 0 (nR E j)) (fI n0 F (nR E j)) w') :
  B4 K w0 Wr n0 heap envB envF F ρ' (nR E j) (a.put o.dst v) w':=by
 have hsub1: ∀ m g,F[m]? =some g→E m=true→ ∀ i,fI n0 F (cl1 g m) i→fI n0 F E i:=fun m g hg hm i=>dZ fun q hq=>by
  simp only[cl1,Bool.or_eq_true,beq_iff_eq] at hq
  rcases hq with rfl | hq
  ·exact hm
  ·exact hI.cl m g hg hm q hq
 have htm: ∀ t,o.dst≠some t→(a.put o.dst v).tmps[t]? =a.tmps[t]? :=fun t ht=>by
  cases hd:o.dst with
  | none=>rfl
  | some u=>
   simp only[Act.put]
   rw[Array.getElem?_setIfInBounds_ne (by rw[hd] at ht;simpa using ht)]
 have hag0:bZ n0 ρ ρ':=ha.mono fun _=> .inl
 exact {
  size:=by cases hd:o.dst <;> simp[Act.put,hI.size]
  defers:=by rw[oJ];exact hI.defers
  base:=fun t e he hno=>by
   obtain⟨h1,h2⟩:=hI.base t e he fun m g hm hd=>by
    have:=hno m g hm hd
    cases hEm:E m with
    | false=>rfl
    | true=>rw[jI hEm] at this;cases this
   rw[htm t fun h=>by
    have:=hno j f hf (by rw[D.dst];exact h)
    rw[tR] at this;cases this]
   exact⟨by rw[h2 ρ' hag0];exact h1,h2.move hag0⟩
  fact:=fun m g t e hg hm hd he=>by
   rcases iX hm with rfl | hm
   ·rw[hf] at hg
    simp only[Option.some.injEq] at hg
    subst hg
    rw[D.dst] at hd
    obtain⟨g1,g2,g3,g4⟩:=D.entry t hd
    have hee:=g3 e he
    subst hee
    have htt:(a.put o.dst v).tmps[t]? =some v:=by
     rw[hd]
     simp only[Act.put]
     rw[Array.getElem?_setIfInBounds_self_of_lt (by rw[hI.size];exact g1)]
    rw[htt]
    exact⟨fun hg=>⟨by rw[(hv.1 hg).1],(hv.1 hg).2⟩,fun hg=>by rw[hv.2 hg]⟩
   ·have hne:m≠j:=fun e=>by rw[e,hE] at hm;cases hm
    obtain⟨h1,h2⟩:=hI.fact m g t e hg hm hd he
    rw[htm t fun h=>hFd m g t hg hne h hd]
    have hag:bZ (fI n0 F (cl1 g m)) ρ ρ':=ha.mono (hsub1 m g hg hm)
    exact⟨fun hgb=>⟨by rw[(h1 hgb).2 ρ' hag];exact(h1 hgb).1,(h1 hgb).2.move hag⟩,h2⟩
  hs:=hhs
  bstb:=fun m g q b hg hm hb'=>by
   rcases iX hm with rfl | hm
   ·rw[hf] at hg
    simp only[Option.some.injEq] at hg
    subst hg
    exact hnew q b hb'
   ·exact Blk.stb_move (hI.bstb m g q b hg hm hb') (ha.mono (hsub1 m g hg hm)) fun _ h=>h
  wstb:=fun m g i b hg hm hb'=>by
   rcases iX hm with rfl | hm
   ·rw[hf] at hg
    simp only[Option.some.injEq] at hg
    subst hg
    exact hwr i b hb'
   ·exact Blk.stb_move (hI.wstb m g i b hg hm hb') (ha.mono (hsub1 m g hg hm)) fun _ h=>h
  hb:=fun id b hl=>by
   obtain⟨h1,h2⟩:=hI.hb id b hl
   exact⟨h1,Blk.stb_move h2 hag0 fun _ h=>h⟩
  cl:=fun m g hg hm i hi'=>by
   rcases iX hm with rfl | hm
   ·rw[hf] at hg
    simp only[Option.some.injEq] at hg
    subst hg
    exact jI (hcl i hi')
   ·exact jI (hI.cl m g hg hm i hi')
  inn:=hI.inn }
theorem HS.merge {hE hj h':bT} {nE nj n':Ids} {ρ ρ1 ρ2:Rho} {w w':World} {wr:bT} {m:Nat} {new:List Blk} (hs:HS w0 Wr ρ hE nE w) (sub: ∀ id b,aN hj id=some b→aN hE id=some b)
  (nd:(wr.map (·.1)).Nodup) (own: ∀ i b,aN wr i=some b→ ∃ c,aN hj i=some c∧c.own=true)
  (hlk: ∀ id b,aN h' id=some b→(aN (rT (oS hj wr) m new) id=some b∧(kZ nj m new.length id)∧((m≤id∧id < m+new.length∧new[id - m]? =some b)∨ ∃ k,aN wr id=some b∧aN hE id=some k∧k.own=true∧ρ2 id=ρ id))∨(aN wr id=none∧aN hE id=some b∧ρ2 id=ρ id))
  (hd:HS w0 Wr ρ1 (rT (oS hj wr) m new) (kZ nj m new.length) w') (hbut:But (xB ρ wr) w w')
  (hfr: ∀ i x,m≤i→i < m+new.length→bK (ρ1 i)=some x→w.heap.size≤x∨xB ρ wr x∨ ∃ q b k c,i=m+q∧new[q]? =some b∧b.own=false∧aN hj k=some c∧c.own=false∧c.live=true∧bK (ρ k)=some x)
  (a12:bZ (kZ nj m new.length) ρ1 ρ2) (aE:bZ nE ρ ρ2) (hone: ∀ i,(ρ2 i).oneCell'=true) (hn: ∀ i,nE i→n' i) (hn': ∀ i,kZ nj m new.length i→n' i):HS w0 Wr ρ2 h' n' w' where
 one:=hone
 ok id b hl:=by
  rcases hlk id b hl with ⟨h1,h2,_⟩ | ⟨h0,h1,h2⟩
  ·obtain⟨_,g2,g3⟩:=hd.ok id b h1
   rw[a12 id h2]
   exact⟨hn' id h2,Blk.ok_move g3 a12 g2,Blk.stb_move g3 a12 hn'⟩
  ·obtain⟨g1,g2,g3⟩:=hs.ok id b h1
   rw[h2]
   refine⟨hn id g1,Blk.ok_move g3 aE ?_,Blk.stb_move g3 aE hn⟩
   cases hlv:b.live with
   | true=>
    refine Blk.ok_of_block hbut.size (fun x hx=>hbut.block x (Blk.block g2 hx) ?_) g2
    rintro⟨i,c,hi,hx'⟩
    obtain⟨c',hc'⟩:=Ib nd hi
    obtain⟨k,k1,k2⟩:=own i c' hc'
    exact hs.sep i k id b (sub i k k1) h1 (fun e=>by subst e;rw[h0] at hc';cases hc') k2 hlv x hx' hx
   | false=>
    cases b with
    | gone=>exact fun x hx=>Nat.lt_of_lt_of_le (g2 x hx) hbut.size
    | fix _ _=>cases hlv
    | vec _ _ _=>cases hlv
 sep i b j c hi hj hij hown hlv x hx:=by
  have two: ∀ i,xB ρ wr i→ ∃ p k,aN hE p=some k∧k.own=true∧bK (ρ p)=some i∧aN wr p≠none:=by
   rintro y ⟨p,c,hp,hy⟩
   obtain⟨c',hc'⟩:=Ib nd hp
   obtain⟨k,k1,k2⟩:=own p c' hc'
   exact⟨p,k,sub p k k1,k2,hy,by rw[hc'];simp⟩
  rcases hlk i b hi with ⟨h1,h2,h3⟩ | ⟨h0,h1,h2⟩
  ·rcases hlk j c hj with ⟨g1,g2,g3⟩ | ⟨g0,g1,g2⟩
   ·rw[a12 i h2] at hx
    rw[a12 j g2]
    exact hd.sep i b j c h1 g1 hij hown hlv x hx
   ·rw[g2]
    rcases h3 with ⟨n1,n2,n3⟩ | ⟨k,k0,k1,k2,k3⟩
    ·rw[a12 i h2] at hx
     intro hxj
     rcases hfr i x n1 n2 hx with hge | hw | ⟨q,b',k,c',q1,q2,q3,_⟩
     ·have:=Blk.block (hs.ok j c g1).2.1 hxj;omega
     ·obtain⟨p,k,p1,p2,p3,p4⟩:=two x hw
      exact hs.sep p k j c p1 g1 (fun e=>by subst e;exact p4 g0) p2 hlv x p3 hxj
     ·have:i - m=q:=by omega
      rw[this,q2] at n3
      simp only[Option.some.injEq] at n3
      subst n3
      rw[q3] at hown;cases hown
    ·rw[k3] at hx
     exact hs.sep i k j c k1 g1 hij k2 hlv x hx
  ·rw[h2] at hx
   rcases hlk j c hj with ⟨g1,g2,g3⟩ | ⟨g0,g1,g2⟩
   ·rcases g3 with ⟨n1,n2,n3⟩ | ⟨k,k0,k1,k2,k3⟩
    ·rw[a12 j g2]
     intro hxj
     have hxl:=Blk.block (hs.ok i b h1).2.1 hx
     rcases hfr j x n1 n2 hxj with hge | hw | ⟨q,b',k,c',q1,q2,q3,q4,q5,q5l,q6⟩
     ·omega
     ·obtain⟨p,k,p1,p2,p3,p4⟩:=two x hw
      exact hs.sep p k i b p1 h1 (fun e=>by subst e;exact p4 h0) p2 (Blk.live_own hown) x p3 hx
     ·have q4':=sub k c' q4
      exact hs.sep i b k c' h1 q4' (fun e=>by subst e;rw[h1] at q4';simp only[Option.some.injEq] at q4';subst q4';rw[q5] at hown;cases hown) hown q5l x hx q6
    ·rw[k3]
     exact hs.sep i b j k h1 k1 hij hown (Blk.live_own k2) x hx
   ·rw[g2]
    exact hs.sep i b j c h1 g1 hij hown hlv x hx
 wr i b x hi hown hx:=by
  rcases hlk i b hi with ⟨h1,h2,_⟩ | ⟨h0,h1,h2⟩
  ·rw[a12 i h2] at hx;exact hd.wr i b x h1 hown hx
  ·rw[h2] at hx;exact hs.wr i b x h1 hown hx
 org i b x hi hlv hx:=by
  rcases hlk i b hi with ⟨h1,h2,_⟩ | ⟨h0,h1,h2⟩
  ·rw[a12 i h2] at hx;exact hd.org i b x h1 hlv hx
  ·rw[h2] at hx;exact hs.org i b x h1 hlv hx
 frame:=hd.frame
 os:=hd.os
 tape:=hd.tape
 output:=hd.output
 drawn:=hd.drawn
 size:=hd.size
 ag:=hs.ag.trans aE hs.inn
 inn i hi:=hn i (hs.inn i hi)
theorem AZ (hA:K.A=aA) (hT:TOK P K.T) (hC:COK P K.C) {ops:Array Oper} (hl:ops.toList=full) {Q:Exit→Act→World→Prop}
  (hI:B4 K w0 Wr n0 heap envB envF F ρ E a w) (hK:FOK heap F lo hi) (hn0: ∀ i,n0 i→i < lo) (hB: ∀ t e,(t,e)∈envB→e.gs=[]) (hE:E j=false)
  (D:OpD K full heap envB envF F j o f envj ent) (hf:F[j]? =some f) (ho:ops[j]? =some o) (hcl: ∀ i,f.cl.testBit i=true→E i=true)
  (hFd: ∀ m g t,F[m]? =some g→m≠j→o.dst=some t→g.dst≠some t) :
  wpOp P ops Q j (fun a' w'=> ∃ ρ',B4 K w0 Wr n0 heap envB envF F ρ' (nR E j) a' w') a w:=by
 have hS:=hI.sat hK hn0 hB D hf hE hcl
 have hdis: ∀ i,fI n0 F E i→ ¬ (f.id≤i∧i < f.id+f.new.length):=fun i hi' hr=>by
  rcases hi' with hi' | ⟨m,g,h1,h2,h3,h4⟩
  ·have:=hn0 i hi';have:=(mF.get hK.ord hf).1;omega
  ·exact hK.apart h1 hf (fun e=>by rw[e,hE] at h2;cases h2) ⟨h3,h4⟩ hr
 have hAjE: ∀ i,fI n0 F f.cl.testBit i→fI n0 F E i:=fun i=>dZ fun m hm=>hcl m hm
 have fin: ∀ (r:FR) (v:Value) (w':World),f.wr=r.wr→f.new=r.new→Did w0 Wr ρ (gJ f.tch (fE heap F 0 f.cl.testBit)) (fI n0 F f.cl.testBit) f.id w r v w'→ent.v=r.val→bG K envF ent.gs=true→
   ∃ ρ',B4 K w0 Wr n0 heap envB envF F ρ' (nR E j) (a.put o.dst v) w':=by
  intro r v w' hwr hnew ⟨ρ1,d1,d2,d3,d4,d5,d6⟩ hev hgt
  rw[← hnew] at d3 d4 d6
  rw[← hwr] at d4 d5 d6
  let ρ2:Rho:=fun i=>if f.id≤i∧i < f.id+f.new.length then ρ1 i else ρ i
  have e2: ∀ i,f.id≤i→i < f.id+f.new.length→ρ2 i=ρ1 i:=fun i h1 h2=>if_pos ⟨h1,h2⟩
  have e3: ∀ i, ¬ (f.id≤i∧i < f.id+f.new.length)→ρ2 i=ρ i:=fun i h=>if_neg h
  have a12:bZ (kZ (fI n0 F f.cl.testBit) f.id f.new.length) ρ1 ρ2:=fun i hi'=>by
   rcases hi' with hi' | ⟨h1,h2⟩
   ·rw[e3 i (hdis i (hAjE i hi'))];exact(d1 i hi').symm
   ·exact e2 i h1 h2
  have hsubA: ∀ i,kZ (fI n0 F f.cl.testBit) f.id f.new.length i→fI n0 F (cl1 f j) i:=fun i hi'=>by
   rcases hi' with hi' | ⟨h1,h2⟩
   ·exact dZ (fun m hm=>by simp[cl1,hm]) hi'
   ·exact .inr ⟨j,f,hf,by simp[cl1],h1,h2⟩
  have hnd:=hK.nd j f hf
  have hown: ∀ i b,aN f.wr i=some b→ ∃ c,aN (gJ f.tch (fE heap F 0 f.cl.testBit)) i=some c∧c.own=true:=fun i b hb=>by
   obtain⟨c,c1,c2⟩:=hK.prs j f i b hf hb
   exact⟨c,(gL _ _ _ _).2 ⟨hK.wt j f i b hf hb,c1⟩,c2⟩
  have hsees: ∀ id b,aN (gJ f.tch (fE heap F 0 f.cl.testBit)) id=some b→aN (fE heap F 0 E) id=some b:=fun id b hb=>hK.sees hf hE hcl hI.cl hb
  have aE:bZ (fI n0 F E) ρ ρ2:=fun i hi'=>e3 i (hdis i hi')
  have lkw: ∀ i b,aN f.wr i=some b→ ¬ (f.id≤i∧i < f.id+f.new.length)∧aN (rT (oS (gJ f.tch (fE heap F 0 f.cl.testBit)) f.wr) f.id f.new) i=some b:=fun i b hb=>by
   obtain⟨c,c1,c2⟩:=hown i b hb
   have hr:=hdis i (hI.hs.ok i c (hsees i c c1)).1
   refine⟨hr,?_⟩
   rw[gB,if_neg hr,gS _ _ _ hnd,hb,c1];rfl
  have lkn: ∀ (q:Nat) (b:Blk),f.new[q]? =some b→q < f.new.length∧aN (rT (oS (gJ f.tch (fE heap F 0 f.cl.testBit)) f.wr) f.id f.new) (f.id+q)=some b:=fun q b hq=>by
   have hlt:=kE hq
   refine⟨hlt,?_⟩
   rw[gB,if_pos ⟨by omega,by omega⟩,show f.id+q - f.id=q from by omega]
   exact hq
  refine⟨ρ2,hI.step hE D hf hcl hFd (ρ':=ρ2) aE ⟨fun _=>?_,(fun h=>by rw[hgt] at h;cases h)⟩ (fun q b hb=>?_) (fun i b hb=>?_) ?_⟩
  ·rw[hev]
   exact⟨by rw[d3 ρ2 a12];exact d2,nT.mono (nT.move d3 a12) hsubA⟩
  ·exact Blk.stb_move (d4.ok _ _ (lkn q b hb).2).2.2 a12 hsubA
  ·exact Blk.stb_move (d4.ok _ _ (lkw i b hb).2).2.2 a12 hsubA
  ·refine HS.merge (n':=fI n0 F (nR E j)) hI.hs hsees hnd hown (fun id b hl=>?_) d4 d5 d6 a12 aE (fun i=>?_) (fun i=>dZ fun m=>jI) (fun i hi'=>?_)
   ·rw[hK.more hf hE hI.cl] at hl
    unfold eff at hl
    split at hl
    ·rename_i hr
     have:=(lkn _ b hl).2
     rw[show f.id+(id - f.id)=id from by omega] at this
     exact .inl ⟨this, .inr hr, .inl ⟨hr.1,hr.2,hl⟩⟩
    ·rename_i hr
     split at hl
     ·rename_i b' hb'
      obtain⟨c,c1,c2⟩:=hown id b' hb'
      have c3:=hsees id c c1
      rw[c3] at hl
      simp only[Option.map_some,Option.some.injEq] at hl
      subst hl
      exact .inl ⟨(lkw id _ hb').2, .inl (hS.hs.ok id c c1).1, .inr ⟨c,hb',c3,c2,e3 id hr⟩⟩
     ·rename_i hno
      exact .inr ⟨hno,hl,e3 id hr⟩
   ·by_cases h:f.id≤i∧i < f.id+f.new.length
    ·rw[e2 i h.1 h.2];exact d4.one i
    ·rw[e3 i h];exact hI.hs.one i
   ·refine dZ (fun q hq=>?_) (hsubA i hi')
    simp only[cl1,Bool.or_eq_true,beq_iff_eq] at hq
    rcases hq with rfl | hq
    ·exact tR
    ·exact jI (hcl q hq)
 have skip:f.new=[]→f.wr=[]→bG K envF ent.gs=false→ ∃ ρ',B4 K w0 Wr n0 heap envB envF F ρ' (nR E j) (a.put o.dst undef) w:=fun hnew hwr hgf=>by
  refine⟨ρ,hI.step hE D hf hcl hFd (bZ.refl _ _) ⟨(fun h=>by rw[hgf] at h;cases h),fun _=>rfl⟩ (fun q b hb=>by rw[hnew] at hb;simp at hb) (fun i b hb=>by rw[hwr] at hb;simp[aN] at hb) ?_⟩
  refine hI.hs.part (fun i hi'=> .inl (hI.inn i hi')) fun id b hl=>?_
  rw[hK.more hf hE hI.cl,xC.eff ⟨by rw[hnew];simp only[List.length_nil];omega,by rw[hwr];rfl⟩] at hl
  obtain⟨g1,_,g3⟩:=hI.hs.ok id b hl
  exact⟨hl,dZ (fun m=>jI) g1,Blk.stb_move g3 (bZ.refl _ _) fun i=>dZ fun m=>jI⟩
 unfold wpOp
 simp only[ho]
 have hrun:=D.run
 have hgd:=fun G hG=>jN (G:=G) hA hS hl o hG
 split at hrun
 ·exact hrun.elim
 ·rename_i hG
  have hw:=hgd _ hG
  simp only at hw
  rw[hw]
  simp only[Bool.false_eq_true,if_false]
  obtain⟨h1,h1',h2⟩:=hrun
  refine fin ⟨[], .c (.s .un),[],[]⟩ undef w h1' h1 ⟨ρ,bZ.refl _ _,rfl,fun _ _=>rfl,hS.hs.addI0,But.of (Low.refl _ _),fun i x g1 g2=>by simp at g2;omega⟩ (by rw[h2]) (by rw[h2];rfl)
 ·rename_i hG
  have hw:=hgd _ hG
  simp only at hw
  rw[hw]
  simp only[if_true]
  obtain⟨r,h1,h2,h3,h4,h5⟩:=hrun
  exact .inl (Res.wp (qF hA hT hC hS rfl h1 h2) fun v w' hd=>fin r v w' h3 h4 hd (by rw[h5]) (by rw[h5];rfl))
 ·rename_i gs hG
  have hw:=hgd _ hG
  simp only at hw
  obtain⟨r,h1,h2,h3,h4,h5',h5,h6,hdst⟩:=hrun
  have hent: ∀ b,bG K envj gs=b→o.dst≠none→bG K envF ent.gs=b:=fun b hb hd=>by
   cases hdd:o.dst with
   | none=>exact absurd hdd hd
   | some t=>
    have:=(D.entry t hdd).2.2.2
    rw[h6] at this ⊢
    rw[← this];exact hb
  rw[hw]
  cases hg:bG K envj gs with
  | true=>
   simp only[if_true]
   refine .inl (Res.wp (qF hA hT hC hS hg h1 (h2 hg)) fun v w' hd=>?_)
   exact fin r v w' (by rw[h5',h3]) (by rw[h5,h4]) hd (by rw[h6]) (hent true hg hdst)
  | false=>
   simp only[Bool.false_eq_true,if_false]
   exact skip h5 h5' (hent false hg hdst)
theorem lX (e:Edge):Region.binds .any e=(match e.ground with | .textOnly _=>false | .gcOnly _=>false | _=>true):=by
 unfold Region.binds
 cases e.ground <;> rfl
theorem g9: ∀ {l:List Edge} {cl:Nat},clE F l=some cl→
  (∀ e,e∈l→Region.binds .any e=true→ ∃ g,F[e.on]? =some g∧cl.testBit e.on=true∧ ∀ i,g.cl.testBit i=true→cl.testBit i=true)∧
  (∀ i,cl.testBit i=true→ ∃ e g,e∈l∧Region.binds .any e=true∧F[e.on]? =some g∧(i=e.on∨g.cl.testBit i=true))
 | [],cl,h=>by
  simp only[clE,Option.some.injEq] at h
  subst h
  exact⟨fun e he=>by simp at he,fun i hi=>by simp at hi⟩
 | e :: r,cl,h=>by
  simp only[clE] at h
  split at h
  ·simp at h
  ·rename_i m hm
   obtain⟨h1,h2⟩:=g9 hm
   have keep:Region.binds .any e=false→cl=m→_:=fun hb hcm=>by
    subst hcm
    exact(⟨fun e' he' hb'=>by
     simp only[List.mem_cons] at he'
     rcases he' with rfl | he'
     ·rw[hb] at hb';cases hb'
     ·exact h1 e' he' hb',fun i hi=>by
     obtain⟨e',g,g1,g2⟩:=h2 i hi
     exact⟨e',g,List.mem_cons_of_mem _ g1,g2⟩⟩ :
     (∀ e',e'∈e :: r→Region.binds .any e'=true→ ∃ g,F[e'.on]? =some g∧cl.testBit e'.on=true∧ ∀ i,g.cl.testBit i=true→cl.testBit i=true)∧
     (∀ i,cl.testBit i=true→ ∃ e' g,e'∈e :: r∧Region.binds .any e'=true∧F[e'.on]? =some g∧(i=e'.on∨g.cl.testBit i=true)))
   split at h
   ·rename_i hgr
    simp only[Option.some.injEq] at h
    exact keep (by rw[lX,hgr]) h.symm
   ·rename_i hgr
    simp only[Option.some.injEq] at h
    exact keep (by rw[lX,hgr]) h.symm
   ·rename_i hg1 hg2
    split at h
    ·rename_i f hf
     simp only[Option.some.injEq] at h
     subst h
     have hb:Region.binds .any e=true:=by
      rw[lX]
      split
      ·rename_i d hd;exact absurd hd (hg1 d)
      ·rename_i d hd;exact absurd hd (hg2 d)
      ·rfl
     refine⟨fun e' he' hb'=>?_,fun i hi=>?_⟩
     ·simp only[List.mem_cons] at he'
      rcases he' with rfl | he'
      ·exact⟨f,hf,by simp[Nat.testBit_or,Nat.testBit_two_pow_self],fun i hi=>by simp[Nat.testBit_or,hi]⟩
      ·obtain⟨g,g1,g2,g3⟩:=h1 e' he' hb'
       exact⟨g,g1,by simp[Nat.testBit_or,g2],fun i hi=>by simp[Nat.testBit_or,g3 i hi]⟩
     ·simp only[Nat.testBit_or,Bool.or_eq_true] at hi
      rcases hi with (hi | hi) | hi
      ·obtain⟨e',g,g1,g2⟩:=h2 i hi
       exact⟨e',g,List.mem_cons_of_mem _ g1,g2⟩
      ·refine⟨e,f,List.mem_cons_self ..,hb,hf, .inl ?_⟩
       rw[Nat.testBit_two_pow] at hi
       exact(by simpa using hi:e.on=i).symm
      ·exact⟨e,f,List.mem_cons_self ..,hb,hf, .inr hi⟩
    ·simp at h
theorem dC {F:List cL} {f g:cL} {m:Nat} (h:(F++[f])[m]? =some g):F[m]? =some g∨(m=F.length∧g=f):=by
 rcases Nat.lt_or_ge m F.length with hlt | hge
 ·rw[List.getElem?_append_left hlt] at h;exact .inl h
 ·rw[List.getElem?_append_right hge] at h
  have:m - F.length=0:=by
   rcases Nat.eq_zero_or_pos (m - F.length) with h0 | h0
   ·exact h0
   ·rw[List.getElem?_eq_none (by simp;omega)] at h;simp at h
  rw[this] at h
  simp only[List.getElem?_cons_zero,Option.some.injEq] at h
  exact .inr ⟨by omega,h.symm⟩
theorem oE {F:List cL} {f g:cL} {m:Nat} (h:F[m]? =some g):(F++[f])[m]? =some g:=by
 have:m < F.length:=by
  rcases Nat.lt_or_ge m F.length with hlt | hge
  ·exact hlt
  ·rw[List.getElem?_eq_none hge] at h;simp at h
 rw[List.getElem?_append_left this];exact h
theorem Co {l:List Edge} {cl:Nat} (hb:pU F) (h:clE F l=some cl): ∀ i,cl.testBit i=true→i < F.length:=fun i hi=>by
 obtain⟨e,g,_,_,h3,h4⟩:=(g9 h).2 i hi
 have:=kE h3
 rcases h4 with rfl | h4
 ·exact this
 ·have:=hb _ _ h3 i h4;omega
theorem pU.push {l:List Edge} {cl:Nat} (hb:pU F) (h:clE F l=some cl) (d:Option Nat) (q:Nat) (n:List Blk) (rd:List Nat) (wr:bT) (tch:List Nat):pU (F++[⟨d,cl,q,n,rd,wr,tch⟩]):=fun m f hf i hi=>by
 rcases dC hf with hf | ⟨rfl,rfl⟩
 ·exact hb m f hf i hi
 ·exact Co hb h i hi
theorem vX {cl j:Nat} (h:((cl||| 2 ^ j)+1 == 2 ^ (j+1))=true) {i:Nat} (hi:i < j):cl.testBit i=true:=by
 simp only[beq_iff_eq] at h
 have h1:(cl||| 2 ^ j)=2 ^ (j+1) - 1:=by omega
 have h2:=congrArg (fun x=>x.testBit i) h1
 simp only[Nat.testBit_or,Nat.testBit_two_pow_sub_one,Nat.testBit_two_pow] at h2
 have h3:decide (j=i)=false:=by simp;omega
 rw[h3,Bool.or_false] at h2
 rw[h2];simp;omega
theorem Ay {ops:Array Oper} {Q:Exit→Act→World→Prop} : ∀ (tl:List Oper) (F:List cL) (fuel:Nat) (listed:Array Bool) (a:Act) (w:World),tl.length≤fuel→pU F→lU F tl F.length=true→
  (∀ i,tl[i]? =ops[F.length+i]?)→F.length+tl.length=ops.size→listed.size=ops.size→(∀ i,i < ops.size→(listed.getD i true=true↔i < F.length))→
  wpList P ops Q tl a w→wpAny P .any ops Q fuel listed a w
 | [],F,fuel,listed,a,w,_,hb,ht,hops,hlen,hsz,hli,h=>by
  simp only[List.length_nil,Nat.add_zero] at hlen
  have hno:Region.ready .any ops listed=[]:=by
   rw[List.eq_nil_iff_forall_not_mem]
   intro i hi
   obtain⟨h1,o,ho,_⟩:=mem_ready.1 hi
   have:i < ops.size:=by
    rcases Nat.lt_or_ge i ops.size with h | h
    ·exact h
    ·rw[Array.getElem?_eq_none h] at ho;simp at ho
   rw[(hli i this).2 (by omega)] at h1
   cases h1
  cases fuel with
  | zero=>exact⟨hno,h⟩
  | succ fuel=>exact⟨fun _=>h,fun i hi=>by rw[hno] at hi;simp at hi⟩
 | o :: rest,F,0,listed,a,w,hfu,hb,ht,hops,hlen,hsz,hli,h=>by simp at hfu
 | o :: rest,F,fuel+1,listed,a,w,hfu,hb,ht,hops,hlen,hsz,hli,h=>by
  simp only[lU] at ht
  split at ht
  ·rename_i cl hcl
   simp only[Bool.and_eq_true] at ht
   obtain⟨ht1,ht2⟩:=ht
   have ho:ops[F.length]? =some o:=by have:=hops 0;simpa using this.symm
   have hlt:F.length < ops.size:=by simp only[List.length_cons] at hlen;omega
   have hmem:F.length∈Region.ready .any ops listed:=by
    refine mem_ready.2 ⟨?_,o,ho,fun e he hbe=>?_⟩
    ·cases hg:listed.getD F.length true with
     | false=>rfl
     | true=>have:=(hli _ hlt).1 hg;omega
    ·obtain⟨g,hg,_⟩:=(g9 hcl).1 e (by simpa using he) hbe
     have h1:=kE hg
     have h2:=(hli e.on (by omega)).2 h1
     have h3:e.on < listed.size:=by omega
     simp only[Array.getD,h3,dif_pos] at h2 ⊢
     exact h2
   have honly: ∀ i,i∈Region.ready .any ops listed→i=F.length:=fun i hi=>by
    obtain⟨h1,o',ho',hall⟩:=mem_ready.1 hi
    have hilt:i < ops.size:=by
     rcases Nat.lt_or_ge i ops.size with h | h
     ·exact h
     ·rw[Array.getElem?_eq_none h] at ho';simp at ho'
    have hge:F.length≤i:=by
     rcases Nat.lt_or_ge i F.length with h | h
     ·rw[(hli i hilt).2 h] at h1;cases h1
     ·exact h
    rcases Nat.eq_or_lt_of_le hge with h | h
    ·exact h.symm
    ·exfalso
     have key: ∀ (tl:List Oper) (G:List cL),pU G→F.length < G.length→lU G tl G.length=true→ ∀ (m:Nat) (o'':Oper),tl[m]? =some o''→(∀ e,e∈o''.after→Region.binds .any e=true→listed.getD e.on false=true)→False:=by
      intro tl
      induction tl with
      | nil=>intro G _ _ _ m o'' hm;simp at hm
      | cons x r ih=>
       intro G hG hlG htG m o'' hm hall
       simp only[lU] at htG
       split at htG
       ·rename_i cl' hcl'
        simp only[Bool.and_eq_true] at htG
        cases m with
        | zero=>
         simp only[List.getElem?_cons_zero,Option.some.injEq] at hm
         subst hm
         have hbit:=vX htG.1 hlG
         obtain⟨e,g,g1,g2,g3,g4⟩:=(g9 hcl').2 _ hbit
         have hl:=hall e (by simpa using g1) g2
         have hl':e.on < F.length:=by
          have h3:e.on < listed.size:=by
           rcases Nat.lt_or_ge e.on listed.size with h | h
           ·exact h
           ·simp[Array.getD,show ¬ e.on < listed.size by omega] at hl
          refine(hli e.on (by omega)).1 ?_
          simp only[Array.getD,h3,dif_pos] at hl ⊢
          exact hl
         rcases g4 with g4 | g4
         ·omega
         ·have:=hG _ _ g3 _ g4;omega
        | succ m=>
         exact ih (G++[⟨none,cl',0,[],[],[],[]⟩]) (hG.push hcl' _ _ _ _ _ _) (by simp;omega) (by simpa using htG.2) m o'' (by simpa using hm) hall
       ·simp at htG
     have hm:rest[i - F.length - 1]? =some o':=by
      have:=hops (i - F.length)
      rw[show F.length+(i - F.length)=i from by omega,ho',show i - F.length=(i - F.length - 1)+1 from by omega,List.getElem?_cons_succ] at this
      exact this
     exact key rest (F++[⟨none,cl,0,[],[],[],[]⟩]) (hb.push hcl _ _ _ _ _ _) (by simp) (by simpa using ht2) _ o' hm hall
   refine⟨fun h0=>by rw[h0] at hmem;simp at hmem,fun i hi=>?_⟩
   rw[honly i hi]
   have step: ∀ a w,wpList P ops Q rest a w→wpAny P .any ops Q fuel (listed.setIfInBounds F.length true) a w:=fun a' w' h'=>
    Ay rest (F++[⟨none,cl,0,[],[],[],[]⟩]) fuel _ a' w' (by simp only[List.length_cons] at hfu;omega) (hb.push hcl _ _ _ _ _ _) (by simpa using ht2)
     (fun i=>by
       have:=hops (i+1)
       rw[List.getElem?_cons_succ] at this
       rw[this];congr 1;simp;omega)
     (by simp only[List.length_cons] at hlen;simp;omega) (by simpa using hsz)
     (fun i hi=>by
       have hi':i < listed.size:=by omega
       by_cases he:i=F.length
       ·subst he
        simp[Array.getD,hi']
       ·rw[getD_set_ne true (fun e=>he e.symm),hli i hi]
        simp only[List.length_append,List.length_cons,List.length_nil]
        omega) h'
   unfold wpOp
   simp only[ho]
   simp only[wpList] at h
   split at h
   ·rename_i hw
    rw[if_pos hw]
    exact h.imp (Oper.wp_mono fun a w=>step a w) id
   ·rename_i hw
    rw[if_neg hw]
    exact step _ _ h
  ·simp at ht
end
section
variable {P:Program} {K:Cx} {w0:World} {Wr:jH}
theorem kG {f:cL} : ∀ {F:List cL} {h:bT} {j:Nat} {c:Nat→Bool},c (j+F.length)=false→fE h (F++[f]) j c=fE h F j c
 | [],h,j,c,hc=>by
  simp only[List.nil_append,fE]
  rw[show c j=false by simpa using hc]
 | g :: r,h,j,c,hc=>by
  simp only[List.cons_append,fE]
  rw[kG (by rw[← hc];congr 1;simp;omega)]
theorem vZ: ∀ {F:List cL} {h:bT} {j:Nat} {c d:Nat→Bool},(∀ m,m < F.length→c (j+m)=d (j+m))→fE h F j c=fE h F j d
 | [],_,_,_,_,_=>rfl
 | f :: r,h,j,c,d,e=>by
  have h0:=e 0 (by simp)
  rw[Nat.add_zero] at h0
  simp only[fE]
  rw[h0]
  exact vZ fun m hm=>by
   have:=e (m+1) (by simpa using hm)
   rw[show j+(m+1)=j+1+m from by omega] at this
   exact this
theorem Cw {a b:List Nat} (h:dis a b=true) {i:Nat} (hi:i∈a):i∉b:=by
 unfold dis at h
 have:=List.all_eq_true.1 h i hi
 simpa using this
theorem vP {cl:Nat} {wrk tch:List Nat} : ∀ {F:List cL} {j:Nat},vO cl wrk tch F j=true→ ∀ (m:Nat) (g:cL),F[m]? =some g→cl.testBit (j+m)=true∨dis (g.wr.map (·.1)) tch=true∧dis wrk g.tch=true
 | [],_,_,m,g,h=>by simp at h
 | f :: r,j,h,m,g,hg=>by
  simp only[vO,Bool.and_eq_true,Bool.or_eq_true] at h
  cases m with
  | zero=>
   simp only[List.getElem?_cons_zero,Option.some.injEq] at hg
   subst hg
   exact h.1
  | succ m=>
   have:=vP h.2 m g (by simpa using hg)
   rwa [show j+(m+1)=j+1+m from by omega]
theorem anG {tch:List Nat} {h:bT} : ∀ {wr:bT},Mt tch h wr=true→(wr.map (·.1)).Nodup∧ ∀ (i:Nat) (b:Blk),aN wr i=some b→i∈tch∧ ∃ c,aN h i=some c∧c.own=true
 | [],_=>⟨by simp,fun i b hb=>by simp[aN] at hb⟩
 |(j,c) :: r,hw=>by
  simp only[Mt,Bool.and_eq_true] at hw
  obtain⟨⟨⟨h1,h2⟩,h3⟩,h4⟩:=hw
  obtain⟨g1,g2⟩:=anG h4
  refine⟨?_,fun i b hb=>?_⟩
  ·simp only[List.map_cons,List.nodup_cons]
   exact⟨by simpa using h3,g1⟩
  ·simp only[aN] at hb
   split at hb
   ·rename_i hj
    simp only[beq_iff_eq] at hj
    subst hj
    refine⟨by simpa using h1,?_⟩
    split at h2
    ·rename_i k hk;exact⟨k,hk,h2⟩
    ·cases h2
   ·exact g2 i b hb
theorem FOK.push {heap:bT} {F:List cL} {lo hi:Nat} (hK:FOK heap F lo hi) {l:List Edge} {cl:Nat} (hcl:clE F l=some cl) {d:Option Nat} {new:List Blk} {rd:List Nat} {wr:bT} {tch:List Nat}
  (hw:Mt tch (gJ tch (fE heap F 0 cl.testBit)) wr=true) (hc:vO cl (wr.map (·.1)) tch F 0=true):FOK heap (F++[⟨d,cl,hi,new,rd,wr,tch⟩]) lo (hi+new.length):=by
 obtain⟨w1,w2⟩:=anG hw
 have hbl:=Co hK.bits hcl
 have hst: ∀ (k:Nat) (g:cL),F[k]? =some g→fE heap (F++[⟨d,cl,hi,new,rd,wr,tch⟩]) 0 g.cl.testBit=fE heap F 0 g.cl.testBit:=fun k g hg=>by
  refine kG ?_
  rw[Nat.zero_add]
  cases hb:g.cl.testBit F.length with
  | false=>rfl
  | true=>
   have:=hK.bits k g hg _ hb
   have:=kE hg
   omega
 exact {
  ord:=hK.ord.push (f:=⟨d,cl,hi,new,rd,wr,tch⟩) rfl
  bits:=hK.bits.push hcl _ _ _ _ _ _
  hb:=hK.hb
  nd:=fun m f hf=>by
   rcases dC hf with hf | ⟨rfl,rfl⟩
   ·exact hK.nd m f hf
   ·exact w1
  wt:=fun m f i b hf hi=>by
   rcases dC hf with hf | ⟨rfl,rfl⟩
   ·exact hK.wt m f i b hf hi
   ·exact(w2 i b hi).1
  cmp:=fun m k f g hf hg hlt=>by
   rcases dC hg with hg | ⟨rfl,rfl⟩
   ·rcases dC hf with hf | ⟨rfl,rfl⟩
    ·exact hK.cmp m k f g hf hg hlt
    ·have:=kE hg;omega
   ·rcases dC hf with hf | ⟨rfl,rfl⟩
    ·rcases vP hc m f hf with h | ⟨h1,h2⟩
     ·rw[Nat.zero_add] at h;exact .inl h
     ·exact .inr ⟨fun i b hb=>Cw h1 (List.mem_map.2 ⟨_,dD hb,rfl⟩),fun i b hb=>Cw h2 (List.mem_map.2 ⟨_,dD hb,rfl⟩)⟩
    ·omega
  prs:=fun k g i b hg hb=>by
   rcases dC hg with hg | ⟨rfl,rfl⟩
   ·rw[hst k g hg];exact hK.prs k g i b hg hb
   ·obtain⟨_,c,c1,c2⟩:=w2 i b hb
    refine⟨c,?_,c2⟩
    show aN (fE heap (F++[⟨d,cl,hi,new,rd,wr,tch⟩]) 0 cl.testBit) i=some c
    rw[kG (by
     rw[Nat.zero_add]
     cases hb:cl.testBit F.length with
     | false=>rfl
     | true=>have:=hbl _ hb;omega)]
    exact((gL _ _ _ _).1 c1).2 }
theorem pI {R:List Nat} {t:Nat} {e:Ent} : ∀ {env:List (Nat×Ent)},(t,e)∈sN R env→(t,e)∈env∧R.contains t=true
 | [],h=>by simp[sN] at h
 |(j,f) :: r,h=>by
  simp only[sN] at h
  split at h
  ·rename_i hc
   simp only[List.mem_cons,Prod.mk.injEq] at h
   rcases h with ⟨rfl,rfl⟩ | h
   ·exact⟨List.mem_cons_self ..,hc⟩
   ·obtain⟨h1,h2⟩:=pI h;exact⟨List.mem_cons_of_mem _ h1,h2⟩
  ·obtain⟨h1,h2⟩:=pI h;exact⟨List.mem_cons_of_mem _ h1,h2⟩
theorem qU {R:List Nat} {t:Nat} (hc:R.contains t=true): ∀ (env:List (Nat×Ent)),aN (sN R env) t=aN env t
 | []=>rfl
 |(j,f) :: r=>by
  simp only[sN]
  split
  ·simp only[aN]
   split
   ·rfl
   ·exact qU hc r
  ·rename_i hj
   simp only[aN]
   rw[if_neg (fun e=>hj (by simp only[beq_iff_eq] at e;subst e;exact hc))]
   exact qU hc r
theorem oA {R:List Nat} {env:List (Nat×Ent)} : ∀ {gs:List (Nat×Bool)},gs.all (fun g=>R.contains g.1)=true→bG K (sN R env) gs=bG K env gs
 | [],_=>rfl
 |(t,b) :: r,h=>by
  simp only[List.all_cons,Bool.and_eq_true] at h
  unfold bG
  rw[qU h.1,oA h.2]
theorem oI {t:Nat} : ∀ {F:List cL} {j:Nat},r4 t F j=none→ ∀ (m:Nat) (g:cL),F[m]? =some g→g.dst≠some t
 | [],_,_,m,g,hg=>by simp at hg
 | f :: r,j,h,m,g,hg=>by
  simp only[r4] at h
  split at h
  ·simp at h
  ·rename_i hf
   cases m with
   | zero=>simp only[List.getElem?_cons_zero,Option.some.injEq] at hg;subst hg;simpa using hf
   | succ m=>exact oI h m g (by simpa using hg)
theorem tA {t k:Nat} : ∀ {F:List cL} {j:Nat},r4 t F j=some k→ ∃ m g,k=j+m∧F[m]? =some g∧g.dst=some t
 | [],_,h=>by simp[r4] at h
 | f :: r,j,h=>by
  simp only[r4] at h
  split at h
  ·rename_i hf
   simp only[Option.some.injEq] at h
   exact⟨0,f,by omega,by simp,by simpa using hf⟩
  ·obtain⟨m,g,h1,h2,h3⟩:=tA h
   exact⟨m+1,g,by omega,by simpa using h2,h3⟩
theorem p9 {R:List Nat} {F:List cL} {cl t:Nat} {e:Ent} : ∀ {env:List (Nat×Ent)},p8 R F cl env=true→(t,e)∈env→
  e.gs.all (fun g=>R.contains g.1)=true∧ ∀ m,r4 t F 0=some m→cl.testBit m=true
 | [],_,h=>by simp at h
 |(j,f) :: r,hc,h=>by
  simp only[p8,Bool.and_eq_true] at hc
  simp only[List.mem_cons,Prod.mk.injEq] at h
  rcases h with ⟨rfl,rfl⟩ | h
  ·refine⟨hc.1.1,fun m hm=>?_⟩
   have:=hc.1.2
   rw[hm] at this
   exact this
  ·exact p9 hc.2 h
theorem tB {t cl:Nat} : ∀ {F:List cL} {j:Nat},Aj t cl F j=true→ ∀ (m:Nat) (f:cL),F[m]? =some f→f.rd.contains t=true→cl.testBit (j+m)=true
 | [],_,_,m,f,h,_=>by simp at h
 | g :: r,j,h,m,f,hf,hc=>by
  simp only[Aj,Bool.and_eq_true] at h
  cases m with
  | zero=>
   simp only[List.getElem?_cons_zero,Option.some.injEq] at hf
   subst hf
   have:=h.1
   rw[if_pos hc] at this
   exact this
  | succ m=>
   have:=tB h.2 m f (by simpa using hf) hc
   rw[show j+(m+1)=j+1+m from by omega];exact this
theorem vT {t cl:Nat} {F:List cL} (h:uA (some t) F cl=true):(∀ (m:Nat) (g:cL),F[m]? =some g→g.dst≠some t)∧ ∀ (m:Nat) (f:cL),F[m]? =some f→f.rd.contains t=true→cl.testBit m=true:=by
 simp only[uA] at h
 split at h
 ·rename_i ho
  exact⟨fun m g hg=>oI ho m g hg,fun m f hf hc=>by have:=tB h m f hf hc;rwa [Nat.zero_add] at this⟩
 ·cases h
structure tO (K:Cx) (full:List Oper) (heap:bT) (envB:List (Nat×Ent)) (lo:Nat) (l:List Oper) (q:FS):Prop where
 len:q.F.length=l.length
 fok:FOK heap q.F lo q.id
 opd: ∀ (j:Nat) (o:Oper),l[j]? =some o→ ∃ (f:cL) (envj:List (Nat×Ent)) (ent:Ent),q.F[j]? =some f∧OpD K full heap envB q.env q.F j o f envj ent∧(∀ t e,(t,e)∈envj→f.rd.contains t=true)∧ ∃ G:List cL,(∀ (m:Nat) (g:cL),G[m]? =some g→q.F[m]? =some g)∧clE G o.after.toList=some f.cl
 own: ∀ t e,(t,e)∈q.env→((t,e)∈envB∧ ∀ (m:Nat) (g:cL),q.F[m]? =some g→g.dst≠some t)∨ ∃ (m:Nat) (g:cL),q.F[m]? =some g∧g.dst=some t
 once: ∀ (m k:Nat) (g g':cL) (t:Nat),q.F[m]? =some g→q.F[k]? =some g'→g.dst=some t→g'.dst=some t→m=k
variable {full:List Oper} {heap:bT} {envB:List (Nat×Ent)} {lo:Nat} {l:List Oper} {q:FS}
theorem t6 {t0 t:Nat} {e:Ent} (ht:t≠t0): ∀ {env:List (Nat×Ent)},(t,e)∈env→(t,e)∈del t0 env
 | [],h=>by simp at h
 |(j,f) :: r,h=>by
  simp only[del]
  simp only[List.mem_cons,Prod.mk.injEq] at h
  split
  ·rename_i hj
   simp only[beq_iff_eq] at hj
   rcases h with ⟨rfl,_⟩ | h
   ·exact absurd hj ht
   ·exact t6 ht h
  ·rcases h with ⟨rfl,rfl⟩ | h
   ·exact List.mem_cons_self ..
   ·exact List.mem_cons_of_mem _ (t6 ht h)
theorem G0 {env:List (Nat×Ent)} {dst:Option Nat} {gs:List (Nat×Bool)} {v:XV} {gs':List (Nat×Bool)} (hok:oG K dst gs' env=true) :
  (∀ t e,(t,e)∈env→dst≠some t→(t,e)∈BB dst env ⟨gs,v⟩∧bG K (BB dst env ⟨gs,v⟩) e.gs=bG K env e.gs)∧
  (∀ t e,(t,e)∈BB dst env ⟨gs,v⟩→((t,e)∈env∧dst≠some t)∨(dst=some t∧e=⟨gs,v⟩)):=by
 unfold BB
 cases dst with
 | none=>exact⟨fun t e h _=>⟨h,rfl⟩,fun t e h=> .inl ⟨h,by simp⟩⟩
 | some t0=>
  obtain⟨g1,g2,g3⟩:=oH hok
  refine⟨fun t e he hne=>⟨List.mem_cons_of_mem _ (t6 (fun h=>hne (by rw[h])) he),kC (kI g2 he)⟩,fun t e he=>?_⟩
  simp only[put,List.mem_cons,Prod.mk.injEq] at he
  rcases he with ⟨rfl,rfl⟩ | he
  ·exact .inr ⟨rfl,rfl⟩
  ·obtain⟨h1,h2⟩:=t7 he
   exact .inl ⟨h2,fun h=>h1 (by simpa using h.symm)⟩
theorem tO.push (hF:tO K full heap envB lo l q) {o:Oper} {cl:Nat} (hcl:clE q.F o.after.toList=some cl) {R:List Nat} (hcb:p8 R q.F cl (sN R q.env)=true) (hfr:uA o.dst q.F cl=true)
  {gs:List (Nat×Bool)} {v:XV} {new:List Blk} {wr:bT} {tch:List Nat} {ob:List Bool} (hwk:Mt tch (gJ tch (fE heap q.F 0 cl.testBit)) wr=true) (hcm:vO cl (wr.map (·.1)) tch q.F 0=true) (hok:oG K o.dst gs q.env=true) (hgs:gs.all (fun g=>R.contains g.1)=true)
  (hrun:match kF full ⟨sN R q.env,gJ tch (fE heap q.F 0 cl.testBit),q.id⟩ o with
   | .bad=>False
   | .off=>new=[]∧wr=[]∧(⟨gs,v⟩:Ent)=⟨[], .c (.s .un)⟩
   | .on=> ∃ r,rV K ⟨sN R q.env,gJ tch (fE heap q.F 0 cl.testBit),q.id⟩ [] o=some r∧(∀ b,b∈r.ob→b=true)∧wr=r.wr∧new=r.new∧(⟨gs,v⟩:Ent)=⟨[],r.val⟩
   | .sym gs'=> ∃ r,rV K ⟨sN R q.env,gJ tch (fE heap q.F 0 cl.testBit),q.id⟩ gs' o=some r∧(bG K (sN R q.env) gs'=true→ ∀ b,b∈r.ob→b=true)∧r.wr=[]∧r.new=[]∧wr=[]∧new=[]∧(⟨gs,v⟩:Ent)=⟨gs',r.val⟩∧o.dst≠none) :
  tO K full heap envB lo (l++[o]) (q.push o.dst gs v cl new R wr tch ob):=by
 obtain⟨p1,p2⟩:=G0 (K:=K) (gs:=gs) (v:=v) hok
 have hno: ∀ t,o.dst=some t→(∀ (m:Nat) (g:cL),q.F[m]? =some g→g.dst≠some t)∧ ∀ (m:Nat) (f:cL),q.F[m]? =some f→f.rd.contains t=true→cl.testBit m=true:=fun t ht=>by
  rw[ht] at hfr;exact vT hfr
 have hne: ∀ {m:Nat} {g:cL} {t:Nat},q.F[m]? =some g→g.dst=some t→o.dst≠some t:=fun hg hd ht=>(hno _ ht).1 _ _ hg hd
 have hFq:(q.push o.dst gs v cl new R wr tch ob).F=q.F++[⟨o.dst,cl,q.id,new,R,wr,tch⟩]:=rfl
 have henv:(q.push o.dst gs v cl new R wr tch ob).env=BB o.dst q.env ⟨gs,v⟩:=rfl
 have hbl:=Co hF.fok.bits hcl
 have hin: ∀ t,o.dst=some t→(t,(⟨gs,v⟩:Ent))∈(q.push o.dst gs v cl new R wr tch ob).env:=fun t ht=>by
  rw[henv,ht];exact List.mem_cons_self (a:=(t,(⟨gs,v⟩:Ent)))
 exact {
  len:=by rw[hFq];simp[hF.len]
  fok:=by rw[hFq];exact hF.fok.push hcl hwk hcm
  opd:=fun j o' ho'=>by
   rcases Nat.lt_or_ge j l.length with hj | hj
   ·
     rw[List.getElem?_append_left hj] at ho'
     obtain⟨f,envj,ent,h1,D,hR,G,hG1,hG2⟩:=hF.opd j o' ho'
     refine⟨f,envj,ent,by rw[hFq];exact oE h1,?_,hR,G,fun m g hg=>by rw[hFq];exact oE (hG1 m g hg),hG2⟩
     exact {
      sub:=fun t e he=>by
       rcases D.sub t e he with ⟨s1,s2⟩ | ⟨s1,⟨m,g,g1,g2,g3⟩,s3⟩
       ·refine .inl ⟨s1,fun m g hg hd=>?_⟩
        rw[hFq] at hg
        rcases dC hg with hg | ⟨rfl,rfl⟩
        ·exact s2 m g hg hd
        ·exact .inr ((hno t hd).2 j f h1 (hR t e he))
       ·obtain⟨u1,u2⟩:=p1 t e s1 (hne g1 g2)
        exact .inr ⟨u1,⟨m,g,by rw[hFq];exact oE g1,g2,g3⟩,s3.trans u2.symm⟩
      dst:=D.dst
      entry:=fun t ht=>by
       obtain⟨e1,e2,e3,e4⟩:=D.entry t ht
       have hdn:=hne h1 (D.dst.trans ht)
       obtain⟨u1,u2⟩:=p1 t ent e2 hdn
       refine⟨e1,u1,fun e he=>?_,e4.trans u2.symm⟩
       rcases p2 t e he with ⟨he,_⟩ | ⟨hd,_⟩
       ·exact e3 e he
       ·exact absurd hd hdn
      bits:=D.bits
      trans:=fun m g hg hb=>by
       rw[hFq] at hg
       rcases dC hg with hg | ⟨hm,_⟩
       ·exact D.trans m g hg hb
       ·have:=D.bits m hb
        have:=kE h1
        omega
      run:=by
       have:fE heap (q.push o.dst gs v cl new R wr tch ob).F 0 f.cl.testBit=fE heap q.F 0 f.cl.testBit:=by
        rw[hFq]
        refine kG ?_
        rw[Nat.zero_add]
        cases hb:f.cl.testBit q.F.length with
        | false=>rfl
        | true=>
         have:=D.bits _ hb
         have:=kE h1
         omega
       rw[this]
       exact D.run }
   ·
     have hjl:j=l.length:=by
      have:=kE ho'
      simp at this
      omega
     subst hjl
     have ho'':o'=o:=by
      rw[List.getElem?_append_right (Nat.le_refl _),Nat.sub_self] at ho'
      simpa using ho'.symm
     subst ho''
     refine⟨⟨o'.dst,cl,q.id,new,R,wr,tch⟩,sN R q.env,⟨gs,v⟩,by rw[hFq, ← hF.len];simp,?_,fun t e he=>(pI he).2,q.F,fun m g hg=>by rw[hFq];exact oE hg,hcl⟩
     exact {
      sub:=fun t e he=>by
       obtain⟨s1,s2⟩:=pI he
       obtain⟨c1,c2⟩:=p9 hcb he
       cases hw:r4 t q.F 0 with
       | none=>
        rcases hF.own t e s1 with ⟨h,h'⟩ | ⟨m,g,g1,g2⟩
        ·refine .inl ⟨h,fun m g hg hd=>?_⟩
         rw[hFq] at hg
         rcases dC hg with hg | ⟨rfl,_⟩
         ·exact absurd hd (h' m g hg)
         ·exact .inl hF.len
        ·exact absurd g2 (oI hw m g g1)
       | some m=>
        obtain⟨m',g,rfl,g1,g2⟩:=tA hw
        obtain⟨u1,u2⟩:=p1 t e s1 (hne g1 g2)
        refine .inr ⟨u1,⟨m',g,by rw[hFq];exact oE g1,g2,?_⟩,(oA c1).trans u2.symm⟩
        have:=c2 _ hw
        simpa using this
      dst:=rfl
      entry:=fun t ht=>by
       have hok':=hok
       rw[ht] at hok'
       obtain⟨k1,k2,k3⟩:=oH hok'
       refine⟨k1,hin t ht,fun e he=>?_,?_⟩
       ·rcases p2 t e he with ⟨_,he⟩ | ⟨_,he⟩
        ·exact absurd ht he
        ·exact he
       ·show bG K (sN R q.env) gs=bG K (q.push o'.dst gs v cl new R wr tch ob).env gs
        rw[oA hgs,henv,ht]
        exact(kC k3).symm
      bits:=fun i hi=>by rw[← hF.len];exact hbl i hi
      trans:=fun m g hg hb i hi=>by
       rw[hFq] at hg
       have hml:=hbl m hb
       rcases dC hg with hg | ⟨hm,_⟩
       ·obtain⟨e,g',b1,b2,b3,b4⟩:=(g9 hcl).2 m hb
        obtain⟨g'',c1,c2,c3⟩:=(g9 hcl).1 e b1 b2
        rw[b3] at c1
        simp only[Option.some.injEq] at c1
        subst c1
        rcases b4 with rfl | b4
        ·rw[hg] at b3;simp only[Option.some.injEq] at b3;subst b3;exact c3 i hi
        ·have hlt:=kE b3
         have:e.on < l.length:=by rw[← hF.len];exact hlt
         obtain⟨oe,hoe⟩: ∃ oe,l[e.on]? =some oe:=⟨l[e.on],by simp⟩
         obtain⟨fe,_,_,d1,D,_,_⟩:=hF.opd e.on oe hoe
         rw[b3] at d1
         simp only[Option.some.injEq] at d1
         subst d1
         exact c3 i (D.trans m g hg b4 i hi)
       ·omega
      run:=by
       have:fE heap (q.push o'.dst gs v cl new R wr tch ob).F 0 cl.testBit=fE heap q.F 0 cl.testBit:=by
        rw[hFq]
        refine kG ?_
        rw[Nat.zero_add]
        cases hb:cl.testBit q.F.length with
        | false=>rfl
        | true=>have:=hbl _ hb;omega
       show match kF full ⟨sN R q.env,gJ tch (fE heap (q.push o'.dst gs v cl new R wr tch ob).F 0 cl.testBit),q.id⟩ o' with
        | .bad=>False
        | .off=>new=[]∧wr=[]∧(⟨gs,v⟩:Ent)=⟨[], .c (.s .un)⟩
        | .on=> ∃ r,rV K ⟨sN R q.env,gJ tch (fE heap (q.push o'.dst gs v cl new R wr tch ob).F 0 cl.testBit),q.id⟩ [] o'=some r∧(∀ b,b∈r.ob→b=true)∧wr=r.wr∧new=r.new∧(⟨gs,v⟩:Ent)=⟨[],r.val⟩
        | .sym gs'=> ∃ r,rV K ⟨sN R q.env,gJ tch (fE heap (q.push o'.dst gs v cl new R wr tch ob).F 0 cl.testBit),q.id⟩ gs' o'=some r∧(bG K (sN R q.env) gs'=true→ ∀ b,b∈r.ob→b=true)∧r.wr=[]∧r.new=[]∧wr=[]∧new=[]∧(⟨gs,v⟩:Ent)=⟨gs',r.val⟩∧o'.dst≠none
       rw[this]
       exact hrun }
  own:=fun t e he=>by
   rcases p2 t e he with ⟨he,hd⟩ | ⟨hd,_⟩
   ·rcases hF.own t e he with ⟨h,h'⟩ | ⟨m,g,g1,g2⟩
    ·refine .inl ⟨h,fun m g hg hdg=>?_⟩
     rw[hFq] at hg
     rcases dC hg with hg | ⟨_,rfl⟩
     ·exact h' m g hg hdg
     ·exact hd hdg
    ·exact .inr ⟨m,g,by rw[hFq];exact oE g1,g2⟩
   ·exact .inr ⟨q.F.length,⟨o.dst,cl,q.id,new,R,wr,tch⟩,by rw[hFq];simp,hd⟩
  once:=fun m k g g' t hg hg' hd hd'=>by
   rw[hFq] at hg hg'
   rcases dC hg with hg | ⟨rfl,rfl⟩
   ·rcases dC hg' with hg' | ⟨rfl,rfl⟩
    ·exact hF.once m k g g' t hg hg' hd hd'
    ·exact absurd hd' (hne hg hd)
   ·rcases dC hg' with hg' | ⟨rfl,rfl⟩
    ·exact absurd hd (hne hg' hd')
    ·rfl }
theorem Jy (hA:K.A=aA) {g:Bool} {l:List Bool} (h: ∀ b,b∈Jx K g l→b=true) (hg:g=true): ∀ b,b∈l→b=true:=oC hA hg h
theorem uG (hA:K.A=aA) (hF:tO K full heap envB lo l q) {o:Oper} {q':FS} (h:qI K full heap q o=some q') (hob: ∀ b,b∈q'.ob→b=true) :
  tO K full heap envB lo (l++[o]) q'∧ ∀ b,b∈q.ob→b∈q'.ob:=by
 unfold qI at h
 split at h
 ·simp at h
 ·rename_i cl hcl
  simp only at h
  split at h
  ·rename_i hc
   simp only[Bool.and_eq_true] at hc
   obtain⟨hc1,hc2⟩:=hc
   split at h
   ·simp at h
   ·rename_i hG
    split at h
    ·rename_i hok
     simp only[Bool.and_eq_true] at hok
     simp only[Option.some.injEq] at h
     subst h
     exact⟨hF.push hcl hc1 hc2 rfl hok.2 hok.1 rfl (by rw[hG];exact⟨rfl,rfl,rfl⟩),fun b hb=>List.mem_append_left _ hb⟩
    ·simp at h
   ·rename_i hG
    split at h
    ·rename_i r hr
     split at h
     ·rename_i hok
      simp only[Bool.and_eq_true] at hok
      simp only[Option.some.injEq] at h
      subst h
      exact⟨hF.push hcl hc1 hc2 hok.1.2 hok.2 hok.1.1 rfl (by rw[hG];exact⟨r,hr,fun b hb=>hob b (List.mem_append_right _ hb),rfl,rfl,rfl⟩),fun b hb=>List.mem_append_left _ hb⟩
     ·simp at h
    ·simp at h
   ·rename_i gs hG
    split at h
    ·rename_i r hr
     split at h
     ·rename_i hwr hnew
      split at h
      ·rename_i hok
       simp only[Bool.and_eq_true] at hok
       simp only[Option.some.injEq] at h
       subst h
       have hn:o.dst≠none:=fun hn=>by rw[hn] at hok;simp at hok
       exact⟨hF.push hcl hc1 hc2 rfl hok.2 hok.1.1.2 hok.1.2 (by rw[hG];exact⟨r,hr,Jy hA fun b hb=>hob b (List.mem_append_right _ hb),hwr,hnew,rfl,rfl,rfl,hn⟩),fun b hb=>List.mem_append_left _ hb⟩
      ·simp at h
     ·simp at h
    ·simp at h
  ·simp at h
theorem AY {o:Oper} {q':FS} (h:qI K full heap q o=some q'): ∀ b,b∈q.ob→b∈q'.ob:=by
 unfold qI at h
 split at h
 ·simp at h
 ·simp only at h
  split at h
  ·split at h
   ·simp at h
   ·split at h
    ·simp only[Option.some.injEq] at h;subst h;exact fun b hb=>List.mem_append_left _ hb
    ·simp at h
   ·split at h
    ·split at h
     ·simp only[Option.some.injEq] at h;subst h;exact fun b hb=>List.mem_append_left _ hb
     ·simp at h
    ·simp at h
   ·split at h
    ·split at h
     ·split at h
      ·simp only[Option.some.injEq] at h;subst h;exact fun b hb=>List.mem_append_left _ hb
      ·simp at h
     ·simp at h
    ·simp at h
  ·simp at h
theorem qJ: ∀ {r:List Oper} {q q':FS},iD K full heap r q=some q'→ ∀ b,b∈q.ob→b∈q'.ob
 | [],q,q',h=>by simp only[iD,Option.some.injEq] at h;subst h;exact fun _ h=>h
 | o :: r,q,q',h=>by
  simp only[iD] at h
  split at h
  ·rename_i q1 h1
   exact fun b hb=>qJ h b (AY h1 b hb)
  ·simp at h
theorem amM (hA:K.A=aA): ∀ {r l:List Oper} {q q':FS},tO K full heap envB lo l q→iD K full heap r q=some q'→(∀ b,b∈q'.ob→b=true)→tO K full heap envB lo (l++r) q'
 | [],l,q,q',hF,h,_=>by simp only[iD,Option.some.injEq] at h;subst h;simpa using hF
 | o :: r,l,q,q',hF,h,hob=>by
  simp only[iD] at h
  split at h
  ·rename_i q1 h1
   have:=amM hA (uG hA hF h1 fun b hb=>hob b (qJ h b hb)).1 h hob
   simpa using this
  ·simp at h
theorem sH {E:Nat→Bool} {j:Nat} (hE:E j=false): ∀ {m:Nat},(List.range m).countP (nR E j)=(List.range m).countP E+if j < m then 1 else 0
 | 0=>by simp
 | m+1=>by
  rw[List.range_succ,List.countP_append,List.countP_append,sH hE]
  simp only[List.countP_cons,List.countP_nil,Nat.zero_add]
  by_cases hj:j=m
  ·subst hj
   simp[nR,hE]
  ·have h1:nR E j m=E m:=by
    have hne:(m == j)=false:=by simpa using fun e:m=j=>hj e.symm
    simp[nR,hne]
   rw[h1]
   by_cases hlt:j < m
   ·simp only[hlt,if_true,show j < m+1 from by omega];omega
   ·simp only[hlt,if_false,show ¬ j < m+1 from by omega];omega
theorem zH {E:Nat→Bool} {m:Nat} :(List.range m).countP E≤m:=by
 have:=List.countP_le_length (p:=E) (l:=List.range m)
 simpa using this
theorem AR {E:Nat→Bool} {m:Nat} (h:(List.range m).countP E=m): ∀ i,i < m→E i=true:=fun i hi=>by
 have h2:(List.range m).countP E=(List.range m).length:=by simpa using h
 exact(List.countP_eq_length.1 h2) i (by simpa using hi)
theorem CN (hA:K.A=aA) (hT:TOK P K.T) (hC:COK P K.C) {ops:Array Oper} {fr tl:List Oper} (hops:ops.toList=fr++tl) {Q:Exit→Act→World→Prop}
  {n0:Ids} (hF:tO K (fr++tl) heap envB lo fr q) (htl:lU q.F tl fr.length=true) (hn0: ∀ i,n0 i→i < lo) (hB: ∀ t e,(t,e)∈envB→e.gs=[])
  (hend: ∀ ρ n a w,Sat K w0 Wr ρ n ⟨q.env,fE heap q.F 0 (fun _=>true),q.id⟩ a w→wpList P ops Q tl a w) :
  ∀ (fuel:Nat) (listed:Array Bool) (a:Act) (w:World),ops.size≤(List.range fr.length).countP (fun i=>listed.getD i false)+fuel→listed.size=ops.size→
   (∀ i,listed.getD i false=true→i < fr.length)→(∃ ρ,B4 K w0 Wr n0 heap envB q.env q.F ρ (fun i=>listed.getD i false) a w)→wpAny P .any ops Q fuel listed a w:=by
 have hsize:ops.size=fr.length+tl.length:=by rw[← Array.length_toList,hops,List.length_append]
 intro fuel
 have hdone: ∀ (fuel:Nat) (listed:Array Bool) (a:Act) (w:World),ops.size≤(List.range fr.length).countP (fun i=>listed.getD i false)+fuel→listed.size=ops.size→
   (∀ i,listed.getD i false=true→i < fr.length)→(∃ ρ,B4 K w0 Wr n0 heap envB q.env q.F ρ (fun i=>listed.getD i false) a w)→(∀ i,i < fr.length→listed.getD i false=true)→wpAny P .any ops Q fuel listed a w:=by
  intro fuel listed a w hfu hsz hfr ⟨ρ,hI⟩ hall
  have hE: ∀ m,m < q.F.length→listed.getD m false=true:=fun m hm=>hall m (by rw[← hF.len];exact hm)
  have hsame:fE heap q.F 0 (fun i=>listed.getD i false)=fE heap q.F 0 (fun _=>true):=by
   exact vZ fun m hm=>by rw[Nat.zero_add];exact hE m hm
  refine Ay tl q.F fuel listed a w (by have:=zH (E:=fun i=>listed.getD i false) (m:=fr.length);omega) hF.fok.bits (by rw[hF.len];exact htl) (fun i=>?_) (by rw[hF.len];omega) hsz (fun i hi=>?_) (hend ρ (fI n0 q.F (fun i=>listed.getD i false)) a w ?_)
  ·have:ops.toList[q.F.length+i]? =tl[i]? :=by
    rw[hops,hF.len,List.getElem?_append_right (by omega)];congr 1;omega
   rw[← this];simp
  ·have hil:i < listed.size:=by omega
   have e1:listed.getD i true=listed.getD i false:=by simp[Array.getD,hil]
   rw[e1,hF.len]
   exact⟨hfr i,hall i⟩
  ·exact {
    size:=hI.size
    defers:=hI.defers
    env:=fun t e he=>by
     rcases hF.own t e he with ⟨h,h'⟩ | ⟨m,g,g1,g2⟩
     ·obtain⟨h1,h2⟩:=hI.base t e h fun m g hg hd=>absurd hd (h' m g hg)
      rw[hB t e h]
      exact⟨fun _=>⟨h1,h2.mono fun _=> .inl⟩,fun h=>by simp[bG] at h⟩
     ·have hm:=hE m (kE g1)
      obtain⟨h1,h2⟩:=hI.fact m g t e g1 hm g2 he
      refine⟨fun hg=>⟨(h1 hg).1,(h1 hg).2.mono fun i=>dZ fun p hp=>?_⟩,h2⟩
      simp only[cl1,Bool.or_eq_true,beq_iff_eq] at hp
      rcases hp with rfl | hp
      ·exact hm
      ·exact hI.cl m g g1 hm p hp
    hs:=by
     show HS w0 Wr ρ (fE heap q.F 0 fun _=>true) _ w
     rw[← hsame];exact hI.hs
    lt:=fun i hi=>by
     show i < q.id
     rcases hi with hi | ⟨m,g,g1,g2,g3,g4⟩
     ·have:=hn0 i hi;have:=hF.fok.ord.le;omega
     ·have:=(mF.get hF.fok.ord g1).2;omega }
 induction fuel with
 | zero=>
  intro listed a w hfu hsz hfr hI
  have hc:=zH (E:=fun i=>listed.getD i false) (m:=fr.length)
  exact hdone 0 listed a w hfu hsz hfr hI (AR (by omega))
 | succ fuel ih=>
  intro listed a w hfu hsz hfr hI
  by_cases hall: ∀ i,i < fr.length→listed.getD i false=true
  ·exact hdone (fuel+1) listed a w hfu hsz hfr hI hall
  ·obtain⟨ρ,hI⟩:=hI
   have hex: ∃ j,j < fr.length∧listed.getD j false=false:=by
    simp only[Classical.not_forall] at hall
    obtain⟨j,hj,hn⟩:=hall
    exact⟨j,hj,by simpa using hn⟩
   have hget: ∀ j,j < fr.length→ ∃ o,fr[j]? =some o∧ops[j]? =some o:=fun j hj=>by
    refine⟨fr[j],by simp,?_⟩
    have:ops.toList[j]? =some fr[j]:=by rw[hops,List.getElem?_append_left hj];simp
    simpa using this
   have hclo: ∀ (o:Oper) (G:List cL) (cl:Nat),(∀ (m:Nat) (g:cL),G[m]? =some g→q.F[m]? =some g∨fr.length≤m)→clE G o.after.toList=some cl→(∀ e,e∈o.after→Region.binds .any e=true→listed.getD e.on false=true)→ ∀ i,cl.testBit i=true→listed.getD i false=true:=by
    intro o G cl hG hcl he i hi
    obtain⟨e,g,h1,h2,h3,h4⟩:=(g9 hcl).2 i hi
    have hl:=he e (by simpa using h1) h2
    rcases h4 with rfl | h4
    ·exact hl
    ·rcases hG _ _ h3 with h5 | h5
     ·exact hI.cl _ _ h5 hl i h4
     ·have:=hfr _ hl;omega
   refine⟨fun h0=>?_,fun i hi=>?_⟩
   ·
     exfalso
     obtain⟨j,hj⟩:=hex
     have: ∃ j,(j < fr.length∧listed.getD j false=false)∧ ∀ i,i < j→ ¬ (i < fr.length∧listed.getD i false=false):=by
      induction j using Nat.strongRecOn with
      | _ j ihj=>
       by_cases h: ∃ i,i < j∧(i < fr.length∧listed.getD i false=false)
       ·obtain⟨i,h1,h2⟩:=h;exact ihj i h1 h2
       ·exact⟨j,hj,fun i hi h'=>h ⟨i,hi,h'⟩⟩
     obtain⟨j,⟨hj1,hj2⟩,hmin⟩:=this
     obtain⟨o,ho1,ho2⟩:=hget j hj1
     obtain⟨f,envj,ent,hf,D,_,G,hG1,hG2⟩:=hF.opd j o ho1
     have hjl:j < listed.size:=by omega
     have hmem:j∈Region.ready .any ops listed:=by
      refine mem_ready.2 ⟨?_,o,ho2,fun e he hb=>?_⟩
      ·simp only[Array.getD,hjl,dif_pos] at hj2 ⊢;exact hj2
      ·obtain⟨g,g1,g2,_⟩:=(g9 hG2).1 e (by simpa using he) hb
       have hlt:=D.bits _ g2
       have hn:=hmin e.on hlt
       cases hc:listed.getD e.on false with
       | true=>rfl
       | false=>exact absurd ⟨by omega,hc⟩ hn
     rw[h0] at hmem
     simp at hmem
   ·obtain⟨h1,o,ho,hall'⟩:=mem_ready.1 hi
    have hilt:i < ops.size:=by
     rcases Nat.lt_or_ge i ops.size with h | h
     ·exact h
     ·rw[Array.getElem?_eq_none h] at ho;simp at ho
    have hil:i < listed.size:=by omega
    by_cases hif:i < fr.length
    ·obtain⟨o',ho1,ho2⟩:=hget i hif
     rw[ho] at ho2
     simp only[Option.some.injEq] at ho2
     subst ho2
     obtain⟨f,envj,ent,hf,D,_,G,hG1,hG2⟩:=hF.opd i o ho1
     have hcl:=hclo o G f.cl (fun m g hg=> .inl (hG1 m g hg)) hG2 hall'
     have hE:(fun i=>listed.getD i false) i=false:=by
      simp only[Array.getD,hil,dif_pos] at h1 ⊢;exact h1
     have hst:=AZ (Q:=Q) hA hT hC hops hI hF.fok hn0 hB hE D hf ho hcl
      (fun m g t hg hne hd hgd=>hne (hF.once m i g f t hg hf hgd (by rw[D.dst];exact hd)))
     refine wpOp_mono (fun a' w' h'=>?_) hst
     have hadd:(fun k=>(listed.setIfInBounds i true).getD k false)=nR (fun k=>listed.getD k false) i:=by
      funext k
      by_cases hk:k=i
      ·subst hk;simp[nR,Array.getD,hil]
      ·rw[getD_set_ne false (fun e=>hk e.symm)];simp[nR,hk]
     refine ih _ a' w' ?_ (by simpa using hsz) (fun k hk=>?_) ?_
     ·rw[hadd,sH hE,if_pos hif];omega
     ·have hk':nR (fun k=>listed.getD k false) i k=true:=by rw[← hadd];exact hk
      rcases iX hk' with rfl | hk'
      ·exact hif
      ·exact hfr k hk'
     ·rw[hadd];exact h'
    ·
      exfalso
      have key: ∀ (tl':List Oper) (G:List cL),q.F.length≤G.length→(∀ (m:Nat) (g:cL),G[m]? =some g→q.F[m]? =some g∨fr.length≤m)→lU G tl' G.length=true→ ∀ (m:Nat) (o'':Oper),tl'[m]? =some o''→(∀ e,e∈o''.after→Region.binds .any e=true→listed.getD e.on false=true)→ ∀ k,k < fr.length→listed.getD k false=true:=by
       intro tl'
       induction tl' with
       | nil=>intro G _ _ _ m o'' hm;simp at hm
       | cons x r ihx=>
        intro G hlG hG htG m o'' hm hal
        simp only[lU] at htG
        split at htG
        ·rename_i cl' hcl'
         simp only[Bool.and_eq_true] at htG
         cases m with
         | zero=>
          simp only[List.getElem?_cons_zero,Option.some.injEq] at hm
          subst hm
          intro k hk
          exact hclo x G cl' hG hcl' hal k (vX htG.1 (by rw[← hF.len] at hk;omega))
         | succ m=>
          refine ihx (G++[⟨none,cl',0,[],[],[],[]⟩]) (by simp;omega) (fun m g hg=>?_) (by simpa using htG.2) m o'' (by simpa using hm) hal
          rcases dC hg with hg | ⟨rfl,_⟩
          ·exact hG m g hg
          ·exact .inr (by rw[← hF.len];exact hlG)
        ·simp at htG
      have hm:tl[i - fr.length]? =some o:=by
       have:ops.toList[i]? =some o:=by simpa using ho
       rw[hops,List.getElem?_append_right (by omega)] at this
       exact this
      exact hall (key tl q.F (Nat.le_refl _) (fun m g hg=> .inl hg) (by rw[hF.len];exact htl) _ o hm hall')
theorem dG (hA:K.A=aA) (hT:TOK P K.T) (hC:COK P K.C) (hm:P.follows .mixedOrders=true) {id:Nat} {ops:Array Oper} {s:St} {k:St→Prop} {Q:Exit→Act→World→Prop}
  (hQ: ∀ s,k s→ ∀ ρ n a w,Sat K w0 Wr ρ n s a w→Q .normal a w) (p:Op→Bool) {els:Prop} (h:gC K p ops.toList s k els) (hcl: ∀ t e,(t,e)∈s.env→e.gs=[]) {ρ:Rho} {n:Ids} {a:Act} {w:World} (hs:Sat K w0 Wr ρ n s a w) (hels:els→(Code.region id ops true).wp P Q a w) :
  (Code.region id ops true).wp P Q a w:=by
 unfold gC at h
 simp only at h
 generalize hfr:ops.toList.takeWhile (fun o=>p o.op)=fr at h
 generalize htl:ops.toList.dropWhile (fun o=>p o.op)=tl at h
 have hops:ops.toList=fr++tl:=by rw[← hfr, ← htl,List.takeWhile_append_dropWhile]
 split at h
 ·rename_i q hq
  split at h
  ·rename_i ht
   refine wp_region_any hm ?_
   obtain⟨hob,hrun⟩:=kX h
   have hF0:tO K (fr++tl) s.heap s.env s.nid [] ⟨s.env,[],[],s.nid⟩:= {
    len:=rfl
    fok:=⟨rfl,fun m f hf=>by simp at hf,fun id b hl=>hs.lt id (hs.hs.ok id b hl).1,fun m f hf=>by simp at hf,fun m f i b hf=>by simp at hf,fun m k f g hf=>by simp at hf,fun k g i b hg=>by simp at hg⟩
    opd:=fun j o ho=>by simp at ho
    own:=fun t e he=> .inl ⟨he,fun m g hg=>by simp at hg⟩
    once:=fun m k g g' t hg=>by simp at hg }
   rw[hops] at hq hrun
   have hF:=amM hA hF0 hq hob
   rw[List.nil_append] at hF
   have hmod:Sat K w0 Wr ρ n s a { w with drawn:=w.drawn+1 } :=⟨hs.size,hs.defers,hs.env,hs.hs.below ((Low.refl _ _).drew),hs.lt⟩
   refine CN hA hT hC hops hF ht (n0:=n) hs.lt hcl (fun ρ' n' a' w' h'=>fD hA hT hC hops hQ tl _ hrun ρ' n' a' w' h') ops.size _ a _ (by omega) (by simp) (fun i hi=>?_) ⟨ρ,?_⟩
   ·simp[Array.getD] at hi
   ·have hE: ∀ i,(Array.replicate ops.size false).getD i false=false:=fun i=>by simp[Array.getD]
    exact {
     size:=hmod.size
     defers:=hmod.defers
     base:=fun t e h1 _=>by
      have h2:=(hmod.env t e h1).1
      rw[hcl t e h1] at h2
      exact h2 rfl
     fact:=fun m f t e _ hm=>by rw[hE] at hm;cases hm
     hs:=by
      refine hmod.hs.part (n':=fI n q.F fun i=>(Array.replicate ops.size false).getD i false) (fun i hi=> .inl (hmod.hs.inn i hi)) fun id b hl=>?_
      rw[gT hF.fok.nd,n6 fun m f _ hm=>by rw[hE] at hm;cases hm] at hl
      obtain⟨g1,g2,g3⟩:=hmod.hs.ok id b hl
      exact⟨hl, .inl g1,Blk.stb_move g3 (bZ.refl _ _) fun _=> .inl⟩
     bstb:=fun m f q b _ hm=>by rw[hE] at hm;cases hm
     wstb:=fun m f i b _ hm=>by rw[hE] at hm;cases hm
     hb:=fun id b hl=>by
      obtain⟨g1,_,g3⟩:=hmod.hs.ok id b hl
      exact⟨g1,g3⟩
     cl:=fun m f _ hm=>by rw[hE] at hm;cases hm
     inn:=hmod.hs.inn }
  ·exact hels h
 ·exact hels h
theorem jV (hA:K.A=aA) (hT:TOK P K.T) (hC:COK P K.C) (hm:P.follows .mixedOrders=true) {id:Nat} {ops:Array Oper} {s:St} {k:St→Prop} {Q:Exit→Act→World→Prop}
  (hQ: ∀ s,k s→ ∀ ρ n a w,Sat K w0 Wr ρ n s a w→Q .normal a w) (h:rK K ops.toList s k) (hcl: ∀ t e,(t,e)∈s.env→e.gs=[]) {ρ:Rho} {n:Ids} {a:Act} {w:World} (hs:Sat K w0 Wr ρ n s a w) :
  (Code.region id ops true).wp P Q a w:=by
 unfold rK at h
 split at h
 ·exact dG hA hT hC hm hQ _ h hcl hs fun h2=>dG hA hT hC hm hQ _ h2 hcl hs fun h3=>dG hA hT hC hm hQ _ h3 hcl hs fun h4=>h4.elim
 ·split at h
  ·exact dG hA hT hC hm hQ _ h hcl hs fun h2=>dG hA hT hC hm hQ _ h2 hcl hs fun h4=>h4.elim
  ·exact dG hA hT hC hm hQ _ h hcl hs fun h4=>h4.elim
end
end Go.Eng
