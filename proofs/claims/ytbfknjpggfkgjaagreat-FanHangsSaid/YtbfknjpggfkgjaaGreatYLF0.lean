
import Derived.Test.YtbfknjpggfkgjaaGreatYNF4
import Derived.Test.YtbfknjpggfkgjaaGreatYCTA
set_option linter.all false
set_option exponentiation.threshold 3000
set_option maxRecDepth 100000
set_option maxHeartbeats 4000000
namespace Go.Eng
open Go.Proofs
def apS (H:SH):List CV→List Blk→Option LR
 | [],[]=>some ⟨[], .c (.g [.P ⟨H.whole 0,H.whole 2⟩, .P ⟨H.whole 0,H.whole 2⟩, .P ⟨H.whole 0,H.whole 2⟩]),[]⟩
 | _,_=>none
def lF0 (A:Alg) (H:SH):List (Nat×bU):=(21,aC [.v] A (qO A H)) :: ([])
theorem arZ:COK Tryz.prog (aN (lF0 aA bD)):=aB rC (bC)
theorem aoU:aJ Tryz.prog 16 (aC [] aA (apS bD)):=by
 refine aH (un:=⟨false,some [0,1,2]⟩) tok arZ aL (fn:=Tryz.f16) ?_
 intro w Wr args bs r hg ho hWr A L k hA hL hk
 obtain⟨H,hH⟩:=exE bD
 try rw[← hH]
 try rw[← hA]
 unfold apS at hg
 split at hg <;> cases hg
 cbv
 repeat' with_reducible first | (intro hb;cbv) | refine UM ?_ ?_
 all_goals first | ((try subst hA);(try subst hS);(try subst hR);(try subst hX);(try subst hC);(try subst hV);(try subst hT);(try subst hM);(try subst hF);(try subst hH);(try subst hK);(try subst hJ);(try subst hE);(try subst hD);(try subst hU);(try subst hW);(try subst hI);(try subst hP);decide +kernel) | skip
 subst hH
 exact hk _ _ (bE.pure rfl fun ρ=>rfl)
theorem atL {K:Cx} {n:Nat} {c:Code} {s:St} {k:Exit→St→Prop} (s':St) (h:s=s') (g:run K n c s' k):run K n c s k:=h ▸ g
theorem atI {L:List I3} {m:I3} (hm:m∈L) (hmin:L.all (fun x=> !decide (cmp3 x m < 0))=true): ∃ r,ajM cmp3 L=m :: r:=by
 have hp:(ajM cmp3 L).Perm L:=List.mergeSort_perm L _
 have hs:(ajM cmp3 L).Pairwise fun x y=>(!decide (cmp3 y x < 0))=true:=List.pairwise_mergeSort (le:=fun x y=> !decide (cmp3 y x < 0)) (fun x y z h1 h2=>by
   simp only[Bool.not_eq_true',decide_eq_false_iff_not,aqA] at h1 h2 ⊢;exact aqJ h2 h1) (fun x y=>by
   simp only[Bool.or_eq_true,Bool.not_eq_true',decide_eq_false_iff_not,aqA]
   by_cases h:Lt3 y x
   ·exact .inr fun h2=>apW _ (aqK h h2)
   ·exact .inl h) L
 cases h:ajM cmp3 L with
 | nil=>rw[h] at hp;exact absurd (hp.mem_iff.2 hm) (by simp)
 | cons t r=>
  rw[h] at hp hs
  have ht:t∈L:=hp.mem_iff.1 (List.mem_cons_self ..)
  have hm':m∈t :: r:=hp.mem_iff.2 hm
  rcases List.mem_cons.1 hm' with e | hr
  ·exact⟨r,by rw[e]⟩
  ·have h1:=(List.pairwise_cons.1 hs).1 m hr
   have h2:=List.all_eq_true.1 hmin t ht
   simp only[Bool.not_eq_true',decide_eq_false_iff_not] at h1 h2
   rw[arB t m rfl rfl h2 h1]
   exact⟨r,rfl⟩
def unP:PcR:=(0,0,0,⟨bD.whole 0,bD.whole 2⟩,⟨bD.whole 0,bD.whole 2⟩,⟨bD.whole 0,bD.whole 2⟩,())
def unL:List I3:=dT.tris (f7.srt (dT.pts (dT.all (f7.srt (dT.cors [unP])) [unP]))) (dT.all (f7.srt (dT.cors [unP])) [unP])
theorem atM: ∃ x y z,dT.srt3 unL=[(0,2,1),x,y,z]:=by
 obtain⟨r,hr⟩:=atI (L:=unL) (m:=(0,2,1)) (by decide +kernel) (by decide +kernel)
 have hl:(ajM cmp3 unL).length=4:=((List.mergeSort_perm unL _).length_eq).trans (by decide +kernel)
 have e:dT.srt3 unL=ajM cmp3 unL:=rfl
 rw[e]
 rw[hr] at hl ⊢
 match r,hl with
 | [x,y,z],_=>exact⟨x,y,z,rfl⟩
theorem atJ {K:Cx} {n i:Nat} {ops:Array Oper} {s:St} {kk:Exit→St→Prop} (t:Nat) (b:Bool) (t2:Nat) (b2:Bool) (hsp:Oq K.un.keep ops.toList=some t) (hfo:HP vW ops.toList=true)
  (h:Dr ((K.know t b).know t2 b2) ops.toList s.heap (ops.toList.dropWhile (fun o=>vW o.op)) (ops.toList.takeWhile (fun o=>vW o.op)).length (fun s'=>kk .normal { s' with env:=BA K.un.keep (mJ s'.env) })
   (ops.toList.takeWhile (fun o=>vW o.op)) ⟨mJ s.env,[],[],s.nid⟩) (hs2:abE (K.know t b).un.keep ops.toList=some t2):run K (n+1) (.region i ops true) s kk:=by
 have key:rK ((K.know t b).know t2 b2) ops.toList { s with env:=mJ s.env } fun s'=>kk .normal { s' with env:=BA K.un.keep (mJ s'.env) } :=by
  unfold rK
  simp only[hfo]
  unfold gC
  simp only
  unfold Dr at h
  split at h
  ·rename_i q hq
   simp only[hq]
   split at h
   ·rename_i ht;rw[if_pos ht];exact h
   ·exact h.elim
  ·exact h.elim
 have k2:We (K.know t b) ops.toList { s with env:=mJ s.env } fun s'=>kk .normal { s' with env:=BA K.un.keep (mJ s'.env) } :=by
  unfold We
  simp only[hs2]
  cases b2 with
  | true=>exact .inl key
  | false=>exact .inr key
 unfold run
 simp only[hsp]
 cases b with
 | true=>exact .inl k2
 | false=>exact .inr k2
def amV:List CV→List Blk→Option LW
 | [],[]=>some ⟨[], .c (.s (.bool true)),[],[]⟩
 | _,_=>none
def lF1 (A:Alg) (H:SH) (I:SP) (P:SNd):List (Nat×bU):=(16,aC [] A (apS H)) :: (30,aR [.a .v] A (ac0 I)) :: (15,aR [.a .v, .a (.s .pt)] A (aoN A P)) :: (19,aR [.a (.s (.row [.int .i64, .int .i64, .int .i64, .P, .P, .P]))] A (an2 A I P)) :: (31,aC [.v, .v] A (FD A H)) :: ([])
theorem ar0:COK Tryz.prog (aN (lF1 aA bD f7 dT)):=aB aoU (aB ad7 (aB an8 (aB anK (aB HZ (bC)))))
theorem am2:aJ Tryz.prog 8 (aR [] aA (amV)):=by
 refine aW (un:=⟨false,some [1000036,3000044,0,1,2,3,4]⟩) tok ar0 aL (fn:=Tryz.f8) ?_
 intro w Wr args bs r hg ho hWr A L k hA hL hk
 obtain⟨H,hH⟩:=exE bD
 obtain⟨I,hI⟩:=exE f7
 obtain⟨P,hP⟩:=exE dT
 try rw[← hH]
 try rw[← hI]
 try rw[← hP]
 try rw[← hA]
 unfold amV at hg
 split at hg <;> cases hg
 refine Ef rfl ?_
 with_reducible refine fA fun kk hn hx=>?_
 cbv
 repeat' with_reducible first | (intro hb;cbv) | refine UM ?_ ?_
 all_goals first | (with_reducible refine hn _ ?_;clear hn hx kk) | ((try subst hA);(try subst hS);(try subst hR);(try subst hX);(try subst hC);(try subst hV);(try subst hT);(try subst hM);(try subst hF);(try subst hH);(try subst hK);(try subst hJ);(try subst hE);(try subst hD);(try subst hU);(try subst hW);(try subst hI);(try subst hP);decide +kernel)
 with_reducible refine fA fun kk hn hx=>?_
 cbv
 repeat' with_reducible first | (intro hb;cbv) | refine UM ?_ ?_
 all_goals first | (with_reducible refine hn _ ?_;clear hn hx kk) | ((try subst hA);(try subst hS);(try subst hR);(try subst hX);(try subst hC);(try subst hV);(try subst hT);(try subst hM);(try subst hF);(try subst hH);(try subst hK);(try subst hJ);(try subst hE);(try subst hD);(try subst hU);(try subst hW);(try subst hI);(try subst hP);decide +kernel)
 with_reducible refine fA fun kk hn hx=>?_
 cbv
 repeat' with_reducible first | (intro hb;cbv) | refine UM ?_ ?_
 all_goals first | (with_reducible refine hn _ ?_;clear hn hx kk) | ((try subst hA);(try subst hS);(try subst hR);(try subst hX);(try subst hC);(try subst hV);(try subst hT);(try subst hM);(try subst hF);(try subst hH);(try subst hK);(try subst hJ);(try subst hE);(try subst hD);(try subst hU);(try subst hW);(try subst hI);(try subst hP);decide +kernel)
 with_reducible refine fA fun kk hn hx=>?_
 cbv
 repeat' with_reducible first | (intro hb;cbv) | refine UM ?_ ?_
 all_goals first | (with_reducible refine hn _ ?_;clear hn hx kk) | ((try subst hA);(try subst hS);(try subst hR);(try subst hX);(try subst hC);(try subst hV);(try subst hT);(try subst hM);(try subst hF);(try subst hH);(try subst hK);(try subst hJ);(try subst hE);(try subst hD);(try subst hU);(try subst hW);(try subst hI);(try subst hP);decide +kernel)
 with_reducible refine fA fun kk hn hx=>?_
 cbv
 repeat' with_reducible first | (intro hb;cbv) | refine UM ?_ ?_
 all_goals first | (with_reducible refine hn _ ?_;clear hn hx kk) | ((try subst hA);(try subst hS);(try subst hR);(try subst hX);(try subst hC);(try subst hV);(try subst hT);(try subst hM);(try subst hF);(try subst hH);(try subst hK);(try subst hJ);(try subst hE);(try subst hD);(try subst hU);(try subst hW);(try subst hI);(try subst hP);decide +kernel)
 obtain⟨C0,hC0⟩: ∃ x,x=I.cor ⟨H.whole 0,H.whole 2⟩ ⟨H.whole 0,H.whole 2⟩ ⟨H.whole 0,H.whole 2⟩:=⟨_,rfl⟩
 obtain⟨F,hF⟩: ∃ x,x=P.fan ⟨H.whole 0,H.whole 2⟩ ⟨H.whole 0,H.whole 2⟩ ⟨H.whole 0,H.whole 2⟩ (I.cor ⟨H.whole 0,H.whole 2⟩ ⟨H.whole 0,H.whole 2⟩ ⟨H.whole 0,H.whole 2⟩):=⟨_,rfl⟩
 obtain⟨p,hp⟩: ∃ x,x=I.srt (P.pts (P.all (I.srt (P.cors [((0,0,0,⟨H.whole 0,H.whole 2⟩,⟨H.whole 0,H.whole 2⟩,⟨H.whole 0,H.whole 2⟩,()):PcR)])) [((0,0,0,⟨H.whole 0,H.whole 2⟩,⟨H.whole 0,H.whole 2⟩,⟨H.whole 0,H.whole 2⟩,()):PcR)])):=⟨_,rfl⟩
 obtain⟨T,hT⟩: ∃ x,x=P.srt3 (P.tris (I.srt (P.pts (P.all (I.srt (P.cors [((0,0,0,⟨H.whole 0,H.whole 2⟩,⟨H.whole 0,H.whole 2⟩,⟨H.whole 0,H.whole 2⟩,()):PcR)])) [((0,0,0,⟨H.whole 0,H.whole 2⟩,⟨H.whole 0,H.whole 2⟩,⟨H.whole 0,H.whole 2⟩,()):PcR)]))) (P.all (I.srt (P.cors [((0,0,0,⟨H.whole 0,H.whole 2⟩,⟨H.whole 0,H.whole 2⟩,⟨H.whole 0,H.whole 2⟩,()):PcR)])) [((0,0,0,⟨H.whole 0,H.whole 2⟩,⟨H.whole 0,H.whole 2⟩,⟨H.whole 0,H.whole 2⟩,()):PcR)])):=⟨_,rfl⟩
 refine atL ⟨[(4,⟨[], .c (.s (.hp 6 0))⟩),(3,⟨[], .c (.s (.hs 2))⟩),(2,⟨[], .c (.s (.hs 1))⟩),(1,⟨[], .c (.s (.hp 0 0))⟩),(0,⟨[], .c (.s (.tt false))⟩)],[(6, .fix true [.s (.hs 4), .s (.hs 5), .s .nils]),(4, .vec true .pt p),(5, .vec true .i3 T),(3, .vec true (.row [.int .i64, .int .i64, .int .i64, .P, .P, .P]) [((0,0,0,⟨H.whole 0,H.whole 2⟩,⟨H.whole 0,H.whole 2⟩,⟨H.whole 0,H.whole 2⟩,()):PcR)]),(2, .vec true (.row [.P, .P, .P]) F),(1, .vec true .pt C0),(0, .fix true [.P ⟨H.whole 0,H.whole 2⟩, .P ⟨H.whole 0,H.whole 2⟩, .P ⟨H.whole 0,H.whole 2⟩])],7⟩ (by subst hC0 hF hp hT;rfl) ?_
 have eT: ∃ x y z,T=[(0,2,1),x,y,z]:=by
  subst hT hI hP hH
  exact atM
 obtain⟨x,y,z,rfl⟩:=eT
 with_reducible refine fA fun kk hn hx=>?_
 with_reducible refine atJ 36 true 44 true (by kernel_rfl) (by kernel_rfl) ?_ (by kernel_rfl)
 with_reducible refine atF 15 fun P hP=>?_
 cbv
 with_reducible refine hP _ ?_
 clear hP P
 with_reducible refine atF 15 fun P hP=>?_
 cbv
 with_reducible refine hP _ ?_
 clear hP P
 with_reducible refine atF 15 fun P hP=>?_
 cbv
 with_reducible refine hP _ ?_
 clear hP P
 with_reducible refine atF 15 fun P hP=>?_
 cbv
 with_reducible refine hP _ ?_
 clear hP P
 with_reducible refine atF 5 fun P hP=>?_
 cbv
 with_reducible refine hP _ ?_
 clear hP P
 with_reducible refine atK (by kernel_rfl) (by kernel_rfl) ?_
 cbv
 repeat' with_reducible refine And.intro ?_ ?_
 all_goals first | (with_reducible refine hn _ ?_;clear hn hx kk) | (with_reducible refine sV hA ?_;clear hT;subst hC0 hF hp hA hI hP hH;kernel_rfl) | (clear hn hx kk hT;subst hC0 hF hp hA hI hP hH;kernel_rfl)
 cbv
 refine hk _ _ (bW.pure rfl rfl fun ρ=>dB ?_)
 clear hT
 subst hC0 hF hp hA hH hI hP
 kernel_rfl
end Go.Eng
