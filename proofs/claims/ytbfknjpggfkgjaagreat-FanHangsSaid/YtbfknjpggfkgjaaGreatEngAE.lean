
import Derived.Test.YtbfknjpggfkgjaaGreatEngAX
import Derived.Test.YtbfknjpggfkgjaaGreatEngW
import Derived.Deep.Slices
import Derived.Deep.Strs
set_option linter.all false
set_option exponentiation.threshold 3000
set_option maxRecDepth 100000
namespace Go.Eng
open Go.RowKit Go.WideShapes Go.ChangeShapes
section
variable {H:Type} {enc:TypeId×Value→H} {P:Program} {w w':World}
structure SlP (k:RK) (w:World) (v:Value) (l:List k.ty):Prop where
 ok:(Blk.vec false k l).ok w v vC
 one:v.oneCell'=true
theorem RK.flat_len (k:RK): ∀ l:List k.ty,(k.flat l).length=l.length*k.esz
 | []=>by simp[RK.flat]
 | x :: r=>by rw[RK.flat_cons,List.length_append,k.at_len,RK.flat_len k r,List.length_cons,Nat.add_mul];omega
structure Arg where
 v:Value
 k:RK
 l:List k.ty
def HK:List Arg→List Blk
 | []=>[]
 | a :: r=> .vec false a.k a.l :: HK r
def Cb (ags:List Arg):Rho:=fun i=>match ags[i]? with
 | some a=>a.v
 | none=> .pointer none
def RE (ags:List Arg):jH:=⟨fun _=>False,fun i=>i < ags.length,Cb ags,fun x=> ∃ i,bK (Cb ags i)=some x⟩
theorem zB: ∀ {ags:List Arg} {i:Nat} {b:Blk},(HK ags)[i]? =some b→ ∃ a,ags[i]? =some a∧b= .vec false a.k a.l
 | [],i,b,h=>by simp[HK] at h
 | a :: r,0,b,h=>by simp[HK] at h;exact⟨a,rfl,h.symm⟩
 | a :: r,i+1,b,h=>by
  obtain⟨a',h1,h2⟩:=zB (ags:=r) (i:=i) (by simpa [HK] using h)
  exact⟨a',by simpa using h1,h2⟩
theorem HS.args {ags:List Arg} (h: ∀ a,a∈ags→SlP a.k w a.v a.l):HS w (RE ags) (Cb ags) (gR (HK ags) 0) (fun i=>i < ags.length) w:=by
 have hx: ∀ i b,aN (gR (HK ags) 0) i=some b→ ∃ a,ags[i]? =some a∧b= .vec false a.k a.l:=fun i b h=>by
  rw[jQ,if_pos (Nat.zero_le _),Nat.sub_zero] at h
  exact zB h
 have hr: ∀ i a,ags[i]? =some a→Cb ags i=a.v:=fun i a h=>by unfold Cb;rw[h]
 exact {
  one:=fun i=>by
   unfold Cb
   split
   ·rename_i a ha;exact(h a (List.mem_of_getElem? ha)).one
   ·rfl
  ok:=fun i b hb=>by
   obtain⟨a,h1,rfl⟩:=hx i b hb
   rw[hr i a h1]
   exact⟨(List.getElem?_eq_some_iff.1 h1).1,Blk.flat_ok rfl _ (h a (List.mem_of_getElem? h1)).ok,trivial⟩
  sep:=fun i b j c hi hj hij ho=>by
   obtain⟨a,_,rfl⟩:=hx i b hi
   cases ho
  wr:=fun i b x hi ho=>by
   obtain⟨a,_,rfl⟩:=hx i b hi
   cases ho
  org:=fun i b x hi _ hxx=> .inr (.inr ⟨i,hxx⟩)
  frame:=fun _ _ _=>rfl
  os:=rfl
  tape:=rfl
  output:=rfl
  drawn:=Nat.le_refl _
  size:=Nat.le_refl _
  ag:=bZ.refl _ _
  inn:=fun _ h=>h }
theorem Bk {f:Nat} {sem:bU} (h:aJ P f sem) {ags:List Arg} {args:List CV} {ob:List Bool} {new:List Blk} (has: ∀ a,a∈ags→SlP a.k w a.v a.l)
  (hf: ∀ v,v∈args→iK (fun i=>i < ags.length) (Cb ags) v) (he:sem ags.length args (gR (HK ags) 0)=some ⟨ob, .c (.s (.bool true)),new,[]⟩) (ho: ∀ b,b∈ob→b=true) :
  Calls P f (args.map (CV.den (Cb ags))).toArray w fun e w'=>e= .returned (.bool true)∧Below w.heap.size w w':=
 (h.calls (fun i=>i < ags.length) ags.length args _ _ (fun i hi=>hi) he ho w (RE ags) (Cb ags) w (HS.args has) hf).mono fun e w' ⟨v,h1,ρ',_,hv,_,_,hb,_⟩=>
  ⟨by rw[h1,hv];rfl,(hb.below HC).toB⟩
end
end Go.Eng
