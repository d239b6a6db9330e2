
import Derived.Test.YtbfknjpggfkgjaaGreatYCH2
import Derived.Test.YtbfknjpggfkgjaaGreatEngAH
set_option linter.all false
set_option exponentiation.threshold 3000
set_option maxRecDepth 100000
set_option maxHeartbeats 4000000
namespace Go.Eng
open Go.Proofs
def ac0 (I:SP):List CV→List Blk→Option LW
 | [.g [.P u, .P v, .P w]],[]=>some ⟨[], .c (.s (.hs 0)),[.vec true .pt (I.cor u v w)],[]⟩
 | _,_=>none
def aeD (A:Alg) (b:Bool) (M:List Pt) (p:Pt):List Pt:=match b with
 | true=>A.app M [p]
 | false=>M
theorem aeE (A:Alg) (hA:A=aA) (I:SP) (hI:I=f7) (u v w:Pt) {b0 b1 b2 b3:Bool} (h0:A.not (A.eqP ⟨u.X,v.X⟩ ⟨u.X,v.Y⟩)=b0) (h1:A.not (A.eqP ⟨u.Y,w.X⟩ ⟨u.X,v.X⟩)=b1) (h2:A.not (A.eqP ⟨u.Y,w.Y⟩ ⟨u.Y,w.X⟩)=b2) (h3:A.not (A.eqP ⟨u.X,v.Y⟩ ⟨u.Y,w.Y⟩)=b3):aeD A b3 (aeD A b2 (aeD A b1 (aeD A b0 [] ⟨u.X,v.X⟩) ⟨u.Y,w.X⟩) ⟨u.Y,w.Y⟩) ⟨u.X,v.Y⟩=I.cor u v w:=by
 subst hA hI
 have g: ∀ (p q:Pt) (M:List Pt) (b:Bool),aA.not (aA.eqP p q)=b→aeD aA b M p=M++(if p≠q then[p] else[]):=fun p q M b h=>by
  have h:(!decide (p=q))=b:=h
  by_cases e:p=q
  ·rw[decide_eq_true e] at h;subst h
   rw[if_neg (by simp[e])]
   show M=M++[]
   rw[List.append_nil]
  ·rw[decide_eq_false e] at h;subst h
   rw[if_pos e];rfl
 rw[g _ _ _ _ h0,g _ _ _ _ h1,g _ _ _ _ h2,g _ _ _ _ h3]
 rfl
theorem af3 {A:Alg} (hA:A=aA) (M N:List Pt) (h:Nat.ble (M.length+N.length) 9=true):A.cmp .leq (A.iadd (A.len M) (A.len N)) 1000000=true:=by
 subst hA
 have h:=Nat.le_of_ble_eq_true h
 exact bJ _ rfl _ _ (by show(M.length:Int)+(N.length:Int)≤1000000;omega)
theorem af2 {A:Alg} (hA:A=aA) (M:List Pt) (h:Nat.ble M.length 9=true):A.cmp .leq (A.len M) 1000000=true:=by
 subst hA
 have h:=Nat.le_of_ble_eq_true h
 exact bJ _ rfl _ _ (by show(M.length:Int)≤1000000;omega)
theorem aeA:aJ Tryz.prog 78 (aR [.a .v] aA (ac0 f7)):=by
 refine aW (un:=⟨true,some [0,1,2,3,4,5,6,28,29,30,40]⟩) tok nF aL (fn:=Tryz.f78) ?_
 intro w Wr args bs r hg ho hWr A L k hA hL hk
 obtain⟨I,hI⟩:=exE f7
 try rw[← hI]
 try rw[← hA]
 unfold ac0 at hg
 split at hg <;> cases hg
 rename_i u v w
 have f:=fun {b0 b1 b2 b3:Bool} => @aeE A hA I hI u v w b0 b1 b2 b3
 cbv
 repeat' first | ((with_reducible intro hb);cbv) | with_reducible refine And.intro ?_ ?_
 all_goals first | (refine af3 hA _ _ ?_;subst hA;rfl) | (refine af2 hA _ ?_;rfl) | skip
 all_goals (have e:=f (by assumption) (by assumption) (by assumption) (by assumption))
 all_goals subst hA hI
 all_goals first | exact hk _ _ (bW.one (t:=2) rfl rfl (Nat.zero_le _) (fun ρ=>rfl) rfl (.vec e)) | exact hk _ _ (bW.one (t:=3) rfl rfl (Nat.zero_le _) (fun ρ=>rfl) rfl (.vec e)) | exact hk _ _ (bW.one (t:=4) rfl rfl (Nat.zero_le _) (fun ρ=>rfl) rfl (.vec e)) | exact hk _ _ (bW.one (t:=5) rfl rfl (Nat.zero_le _) (fun ρ=>rfl) rfl (.vec e)) | exact hk _ _ (bW.one (t:=6) rfl rfl (Nat.zero_le _) (fun ρ=>rfl) rfl (.vec e)) | exact hk _ _ (bW.one (t:=7) rfl rfl (Nat.zero_le _) (fun ρ=>rfl) rfl (.vec e)) | exact hk _ _ (bW.one (t:=8) rfl rfl (Nat.zero_le _) (fun ρ=>rfl) rfl (.vec e)) | exact hk _ _ (bW.one (t:=9) rfl rfl (Nat.zero_le _) (fun ρ=>rfl) rfl (.vec e)) | exact hk _ _ (bW.one (t:=10) rfl rfl (Nat.zero_le _) (fun ρ=>rfl) rfl (.vec e)) | exact hk _ _ (bW.one (t:=11) rfl rfl (Nat.zero_le _) (fun ρ=>rfl) rfl (.vec e)) | exact hk _ _ (bW.one (t:=12) rfl rfl (Nat.zero_le _) (fun ρ=>rfl) rfl (.vec e)) | exact hk _ _ (bW.one (t:=13) rfl rfl (Nat.zero_le _) (fun ρ=>rfl) rfl (.vec e)) | exact hk _ _ (bW.one (t:=14) rfl rfl (Nat.zero_le _) (fun ρ=>rfl) rfl (.vec e)) | exact hk _ _ (bW.nils (by rw[← e];rfl) rfl (fun ρ=>rfl))
theorem ad7:aJ Tryz.prog 30 (aR [.a .v] aA (ac0 f7)):=by
 refine aW (un:=⟨true,some [0,1,2,3,4,5,28,39]⟩) tok nF aL (fn:=Tryz.f30) ?_
 intro w Wr args bs r hg ho hWr A L k hA hL hk
 obtain⟨I,hI⟩:=exE f7
 try rw[← hI]
 try rw[← hA]
 unfold ac0 at hg
 split at hg <;> cases hg
 rename_i u v w
 have f:=fun {b0 b1 b2 b3:Bool} => @aeE A hA I hI u v w b0 b1 b2 b3
 cbv
 repeat' first | ((with_reducible intro hb);cbv) | with_reducible refine And.intro ?_ ?_
 all_goals first | (refine af3 hA _ _ ?_;subst hA;rfl) | (refine af2 hA _ ?_;rfl) | skip
 all_goals (have e:=f (by assumption) (by assumption) (by assumption) (by assumption))
 all_goals subst hA hI
 all_goals first | exact hk _ _ (bW.one (t:=2) rfl rfl (Nat.zero_le _) (fun ρ=>rfl) rfl (.vec e)) | exact hk _ _ (bW.one (t:=3) rfl rfl (Nat.zero_le _) (fun ρ=>rfl) rfl (.vec e)) | exact hk _ _ (bW.one (t:=4) rfl rfl (Nat.zero_le _) (fun ρ=>rfl) rfl (.vec e)) | exact hk _ _ (bW.one (t:=5) rfl rfl (Nat.zero_le _) (fun ρ=>rfl) rfl (.vec e)) | exact hk _ _ (bW.one (t:=6) rfl rfl (Nat.zero_le _) (fun ρ=>rfl) rfl (.vec e)) | exact hk _ _ (bW.one (t:=7) rfl rfl (Nat.zero_le _) (fun ρ=>rfl) rfl (.vec e)) | exact hk _ _ (bW.one (t:=8) rfl rfl (Nat.zero_le _) (fun ρ=>rfl) rfl (.vec e)) | exact hk _ _ (bW.one (t:=9) rfl rfl (Nat.zero_le _) (fun ρ=>rfl) rfl (.vec e)) | exact hk _ _ (bW.one (t:=10) rfl rfl (Nat.zero_le _) (fun ρ=>rfl) rfl (.vec e)) | exact hk _ _ (bW.one (t:=11) rfl rfl (Nat.zero_le _) (fun ρ=>rfl) rfl (.vec e)) | exact hk _ _ (bW.one (t:=12) rfl rfl (Nat.zero_le _) (fun ρ=>rfl) rfl (.vec e)) | exact hk _ _ (bW.one (t:=13) rfl rfl (Nat.zero_le _) (fun ρ=>rfl) rfl (.vec e)) | exact hk _ _ (bW.one (t:=14) rfl rfl (Nat.zero_le _) (fun ρ=>rfl) rfl (.vec e)) | exact hk _ _ (bW.nils (by rw[← e];rfl) rfl (fun ρ=>rfl))
end Go.Eng
