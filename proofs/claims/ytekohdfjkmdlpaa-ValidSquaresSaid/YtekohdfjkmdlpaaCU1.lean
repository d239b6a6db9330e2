
import Derived.Test.YtekohdfjkmdlpaaCTA
set_option linter.all false
set_option exponentiation.threshold 3000
namespace Go.Eng
open Go.Proofs
set_option maxRecDepth 100000
set_option linter.all false
set_option exponentiation.threshold 3000
set_option maxHeartbeats 2000000
def tJ1 (A:Alg) (H:SH):List (Nat×bU):=(18,aC [.v] A (qO A H)) :: ([])
theorem QZ:COK Try.prog (aN (tJ1 aA bD)):=aB rC (bC)
theorem HZ:aJ Try.prog 8 (aC [.v, .v] aA (FD aA bD)):=by
 refine aH (un:=⟨false,some [0,1,4]⟩) tok QZ aL (fn:=Try.f8) (by kernel_rfl) (by kernel_rfl) (by kernel_rfl) (by decide +kernel) ?_
 intro w Wr args bs r hg ho hWr A L k hA hL hk
 obtain⟨H,hH⟩: ∃ H,H=bD:=⟨_,rfl⟩
 (try rw[← hH])
 (try rw[← hA])
 unfold FD at hg
 split at hg
 rotate_left
 ·cases hg
 simp only[Option.some.injEq] at hg
 subst hg
 rename_i x y
 have o1:=(aG ho).1
 have o2:=(aG (aG ho).2).1
 have o3:=(aG (aG (aG ho).2).2).1
 have o4:=(aG (aG (aG (aG ho).2).2).2).1
 clear ho
 rw[← hA] at o1 o2 o3 o4
 cbv
 repeat' first | (with_reducible intro hb;cbv) | with_reducible refine And.intro ?_ ?_
 all_goals first | exact o1 | exact o2 | exact o3 | exact o4 | skip
 refine hk _ _ (bE.pure rfl fun ρ=>?_)
 subst hH
 exact Ps rfl
structure My (A:Alg) (H:SH) (l:List Pt) (k:Int) (w:Pt):Prop where
 o1:A.cmp .leq 0 k=true
 no:A.not (H.all [w])=true→false=H.all l
 nx:A.not (H.all [w])=false→ApI l (k+1)
 ad:A.bin .add .i64 k 1=k+1
 ms:((l.length:Int) - (k+1)).toNat < ((l.length:Int) - k).toNat
theorem Ca {l:List Pt} (hn:l.length < 1000000) {k:Int} (hI:ApI l k) (A:Alg) (hA:A=aA) (H:SH) (hH:H=bD) (hb:A.cmp .lss k (A.len l)=true) (w:Pt) (hw:w=A.get l k ⟨⟨⟨false,A.zD⟩,⟨false,A.zD⟩⟩,⟨⟨false,A.zD⟩,⟨false,A.zD⟩⟩⟩):My A H l k w:=by
 have st:=B9 hn hI A hA aO rfl H hH hb w hw
 have e:A.ite (A.not (aO.safe w.X 60)) true (A.not (aO.safe w.Y 60))=A.not (H.all [w]):=by
  subst hA hH
  show(if(!cQ w.X 60)=true then true else !cQ w.Y 60)= !(dJ w&&true)
  rw[Bool.and_true]
  unfold dJ
  cases cQ w.X 60 <;> cases cQ w.Y 60 <;> rfl
 exact⟨st.o1,fun h=>st.no (by rw[e];exact h),fun h=>st.nx (by rw[e];exact h),st.ad,st.ms⟩
end Go.Eng

