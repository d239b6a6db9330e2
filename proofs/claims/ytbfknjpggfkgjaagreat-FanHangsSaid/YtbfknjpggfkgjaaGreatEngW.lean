
import Derived.Test.YtbfknjpggfkgjaaGreatEngMW
import Derived.OpenShut
set_option linter.all false
set_option exponentiation.threshold 3000
namespace Go.Eng
open Go.RowKit Go.WideShapes Go.ChangeShapes
section
variable {H:Type} {enc:TypeId×Value→H} {P:Program} {w w':World}
theorem AQ (hw: ∀ b,b < w.heap.size→w'.heap[b]? =w.heap[b]?) {a:Addr} {v:Value} (h:w.cell? a=some v):w'.cell? a=some v:=by
 have hlt:a.block < w.heap.size:=by
  rcases Nat.lt_or_ge a.block w.heap.size with h1 | h1
  ·exact h1
  ·simp only[World.cell?,Array.getElem?_eq_none h1] at h;simp at h
 simp only[World.cell?,hw _ hlt] at h ⊢
 exact h
theorem lY (hw: ∀ b,b < w.heap.size→w'.heap[b]? =w.heap[b]?) {base:Nat} {a:Addr} {n:Nat} {cs:List Value} (h:w.cells? base a n=some cs):w'.cells? base a n=some cs:=by
 unfold World.cells? at h ⊢
 split at h
 ·rename_i hc
  rw[if_pos hc]
  exact mapM_mono (fun x y hxy=>AQ hw hxy) h
 ·simp at h
theorem nC {α β:Type} {f g:α→Option β} : ∀ {l:List α} {r:List β},l.mapM f=some r→(∀ x,x∈l→ ∀ y,y∈r→f x=some y→g x=some y)→l.mapM g=some r:=by
 intro l
 induction l with
 | nil=>intro r h _;simpa using h
 | cons x xs ih=>
  intro r h hfg
  rw[List.mapM_cons] at h ⊢
  cases hx:f x with
  | none=>simp[hx] at h
  | some y=>
   cases hxs:xs.mapM f with
   | none=>simp[hx,hxs] at h
   | some ys=>
    simp[hx,hxs] at h
    subst h
    simp[hfg x (List.mem_cons_self ..) y (List.mem_cons_self ..) hx,ih hxs (fun x hx y hy=>hfg x (List.mem_cons_of_mem _ hx) y (List.mem_cons_of_mem _ hy))]
theorem map_some {α β:Type} {o o':Option α} {f:α→β} {y:β} (h: ∀ x,o=some x→f x=y→o'=some x) (e:o.map f=some y):o'.map f=some y:=by
 cases o with
 | none=>simp at e
 | some x=>rw[h x rfl (by simpa using e)];exact e
theorem bind_some {α β:Type} {o o':Option α} {f g:α→Option β} {y:β} (h: ∀ x,o=some x→o'=some x) (hfg: ∀ x,o=some x→f x=some y→g x=some y) (e:o.bind f=some y):o'.bind g=some y:=by
 cases o with
 | none=>simp at e
 | some x=>rw[h x rfl];exact hfg x rfl e
theorem Ce {α β:Type} {o:Option α} {f:α→Option β} {y:β} (h:o.bind f=some y): ∃ x,o=some x∧f x=some y:=by
 cases o with
 | none=>simp at h
 | some x=>exact⟨x,rfl,h⟩
theorem Nn {α β:Type} {o:Option α} {f:α→β} {y:β} (h:o.map f=some y): ∃ x,o=some x∧f x=y:=by
 cases o with
 | none=>simp at h
 | some x=>exact⟨x,rfl,by simpa using h⟩
theorem BQ (hw: ∀ b,b < w.heap.size→w'.heap[b]? =w.heap[b]?) {base:Nat} {sp:Nat→Bool} : ∀ (fuel d:Nat) (t:TypeId) (cs:List Value) (x:DataW H×List MemPlace),P.readsWide d t=true→
  DataW.trod enc P w base (fun _=>true) true fuel t cs=some x→(∀ p,p∈x.2→sp p.block=true)→
  DataW.trod enc P w' base sp true fuel t cs=some x:=by
 intro fuel
 induction fuel with
 | zero=>intro d t cs x _ h;simp[DataW.trod] at h
 | succ fuel ih=>
  intro d t cs x hrd h hsp
  cases d with
  | zero=>simp[Program.readsWide] at hrd
  | succ d=>
  unfold Program.readsWide at hrd
  unfold DataW.trod at h ⊢
  split at h <;> try (first | exact h | simp at h;done)
  ·
    rename_i e a hu
    rw[hu] at hrd
    simp only[Bool.and_eq_true] at hrd
    refine map_some (fun y hy he=>bind_some (fun cs hc=>lY hw hc) (fun cs _ hcs=>ih d _ _ _ hrd.2 hcs fun p hp=>hsp p ?_) hy) h
    subst he;exact List.mem_append_right _ hp
  ·
    rename_i e a len cap hu
    rw[hu] at hrd
    simp only[Bool.and_eq_true,decide_eq_true_eq] at hrd
    simp only[if_true] at h
    split at h
    ·rename_i hc
     simp only
     rw[if_pos hc]
     obtain⟨els,hels,h⟩:=Ce h
     obtain⟨rest,hrest,rfl⟩:=Nn h
     have hin: ∀ y,y∈els++rest→ ∀ p,p∈y.2→sp p.block=true:=fun y hy p hp=>hsp p (List.mem_append_right _ (List.mem_flatMap.2 ⟨y,hy,hp⟩))
     have h1:(List.range len).mapM (fun i=>(w'.cells? base (a.add (i*P.cellsOf e)) (P.cellsOf e)).bind (DataW.trod enc P w' base sp true fuel e))=some els:=
      nC hels fun i _ y hy hz=>bind_some (fun cs hc=>lY hw hc) (fun cs _ hcs=>ih d _ _ _ hrd.2 hcs (hin y (List.mem_append_left _ hy))) hz
     have h2:(List.range (cap - len)).mapM (fun j=>(w'.cells? base (a.add ((len+j)*P.cellsOf e)) (P.cellsOf e)).bind (DataW.trod enc P w' base sp true fuel e))=some rest:=
      nC hrest fun i _ y hy hz=>bind_some (fun cs hc=>lY hw hc) (fun cs _ hcs=>ih d _ _ _ hrd.2 hcs (hin y (List.mem_append_right _ hy))) hz
     rw[h1]
     have hl2:rest.length=cap - len:=by simpa using mapM_some_length hrest
     have h3:(if sp a.block=true then(List.range (cap - len)).mapM (fun j=>(w'.cells? base (a.add ((len+j)*P.cellsOf e)) (P.cellsOf e)).bind (DataW.trod enc P w' base sp true fuel e)) else some [])=some rest:=by
      by_cases hs:sp a.block=true
      ·rw[if_pos hs];exact h2
      ·rw[if_neg hs]
       have h0:rest.length=0:=by
        rcases Nat.eq_zero_or_pos rest.length with h0 | h0
        ·exact h0
        ·exfalso
         apply hs
         refine hsp (.cell a.block (a.off+0)) (List.mem_append_left _ ?_)
         unfold MemPlace.row
         refine List.mem_map.2 ⟨0,List.mem_range.2 (Nat.mul_pos (by omega) hrd.1),rfl⟩
       rw[List.eq_nil_of_length_eq_zero h0]
     show Option.map _ (if sp a.block=true then _ else _)=_
     rw[h3];rfl
    ·simp at h
  ·
    rename_i fs cs' hu
    rw[hu] at hrd
    simp only[Array.all_eq_true'] at hrd
    split at h
    ·rename_i hl
     rw[if_pos hl]
     refine map_some (fun y hy he=>nC hy fun f hf z hz hfz=>ih d _ _ _ (hrd f (by simpa using hf)) hfz fun p hp=>hsp p ?_) h
     subst he;exact List.mem_flatMap.2 ⟨z,hz,hp⟩
    ·simp at h
  ·
    rename_i n e cs' hu
    rw[hu] at hrd
    split at h
    ·rename_i hl
     rw[if_pos hl]
     refine map_some (fun y hy he=>nC hy fun f _ z hz hfz=>ih d _ _ _ hrd hfz fun p hp=>hsp p ?_) h
     subst he;exact List.mem_flatMap.2 ⟨z,hz,hp⟩
    ·simp at h
  ·
    rename_i k e b hu
    rw[hu] at hrd
    simp only[Bool.and_eq_true] at hrd
    split at h
    ·rename_i es clock hb
     have hlt:b < w.heap.size:=by
      rcases Nat.lt_or_ge b w.heap.size with h1 | h1
      ·exact h1
      ·rw[Array.getElem?_eq_none h1] at hb;simp at hb
     rw[hw b hlt,hb]
     simp only
     split at h
     ·rename_i hc
      rw[if_pos hc]
      obtain⟨ents,hents,h⟩:=Ce h
      have hx:x=(.map ((ents.map (·.1)).foldr DataW.insert []), .map b :: ents.flatMap (·.2)):=by
       simp only at h
       split at h
       ·simpa using h.symm
       ·simp at h
      have h1:es.toList.mapM (fun x=>(keyOf P k x.key).bind fun key=>
       if x.val.formed P e then(DataW.trod enc P w' base sp true fuel e x.val.cells.toList).map fun y=>((key,y.1),y.2) else none)=some ents:=by
       refine nC hents fun p _ z hz hpz=>bind_some (fun _ h=>h) (fun key _ hz'=>?_) hpz
       split at hz'
       ·rename_i hf
        simp only[hf,if_true]
        refine map_some (fun y hy he=>ih d _ _ _ hrd.2 hy fun p hp=>hsp p ?_) hz'
        rw[hx]
        refine List.mem_cons_of_mem _ (List.mem_flatMap.2 ⟨z,hz,?_⟩)
        subst he;exact hp
       ·simp at hz'
      rw[h1]
      exact h
     ·simp at h
    ·simp at h
theorem nN (hw: ∀ b,b < w.heap.size→w'.heap[b]? =w.heap[b]?) {base:Nat} {sp:Nat→Bool} : ∀ {ts:List TypeId} {vs:List Value} {ds:List (DataW H)} {ps:List MemPlace},(∀ t,t∈ts→P.readableWide t=true)→
  DataW.TrodAll enc P w base (fun _=>true) true ts vs ds ps→(∀ p,p∈ps→sp p.block=true)→DataW.TrodAll enc P w' base sp true ts vs ds ps
 | [],[],[],_,_,h,_=>h
 | t :: ts,v :: vs,d :: ds,ps,hpos,h,hsp=>by
  obtain⟨p,q,⟨fuel,h1⟩,h2,rfl⟩:=h
  exact⟨p,q,⟨fuel,BQ hw fuel _ t _ _ (hpos t (List.mem_cons_self ..)) h1 fun p hp=>hsp p (List.mem_append_left _ hp)⟩,nN hw (fun t ht=>hpos t (List.mem_cons_of_mem _ ht)) h2 fun p hp=>hsp p (List.mem_append_right _ hp),rfl⟩
 | [],[],_ :: _,_,_,h,_=>h.elim
 | [],_ :: _,[],_,_,h,_=>h.elim
 | [],_ :: _,_ :: _,_,_,h,_=>h.elim
 | _ :: _,[],[],_,_,h,_=>h.elim
 | _ :: _,[],_ :: _,_,_,h,_=>h.elim
 | _ :: _,_ :: _,[],_,_,h,_=>h.elim
theorem GY {f:Func} {s:ChangeSpec} {apart fresh handsOn again:Bool} {W W':World} {args:Array Value} {ds:List (DataW H)} {before:List MemPlace}
  (hW:DataW.Whole enc P f.params.toList s.vars apart W args.toList ds [] before) (hpos:f.params.toList.all P.readableWide=true)
  {tb:TypeId} (hres:f.resultTypes= #[tb]) (hb:P.underlying tb=some .bool) (hvars:s.vars=[]) (hfn:s.fn H ds= { results:=[.lit (.bool true)],args:=ds }) (hl:Below W.heap.size W W') :
  s.post enc P f apart fresh handsOn again W args (.bool true) W':=by
 have hW':=hW
 obtain⟨p,q,hA,hV,rfl,hfz,hnd⟩:=hW
 have hv:q=[]:=by
  rw[hvars] at hV
  exact hV
 subst hv
 have hfn':s.fn H (ds++[])= { results:=[.lit (.bool true)],args:=ds } :=by rw[List.append_nil];exact hfn
 refine GZ (pa:=p) (pv:=[]) hW' (fun b sp hd=>?_) (fun sp hsp=>?_) (fun sp _=>?_) rfl hl ?_
 ·rw[hfn',hres]
  exact trodAll_cons_mk (shut_bool hb _) trodAll_mk0
 ·rw[hfn']
  exact nN (fun b hb=>hl.block b hb) (fun t ht=>List.all_eq_true.1 hpos t ht) hA fun p hp=>hsp p (by simpa using hp)
 ·rw[hvars,hfn'];rfl
 ·exact ok_one hres rfl (okWide_bool_mk hb _)
end
end Go.Eng
