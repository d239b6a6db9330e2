
import Derived.Test.YtbfknjpggfkgjaaGreatSpecQ1
set_option linter.all false
set_option exponentiation.threshold 3000
namespace Go.Eng
theorem akR {β:Type} {l:List β} {n:Int} (h:aA.cmp .lss (aA.len l) n=true):(l.length:Int) < n:=of_decide_eq_true h
section
variable {α:Type} [DecidableEq α] {d:α} {l:List α}
def gD (d:α) (l:List α) (k:Int):α:=l.getD k.toNat d
structure Cp1 (d:α) (l:List α) (k:Int):Prop where
 k0:1≤k
 k1:k≤(l.length:Int)
 ne: ∀ j:Nat,0 < j→(j:Int) < k→l.getD j d≠l.getD (j - 1) d
structure Cp2 (d:α) (l:List α) (b:Int) (k i:Int) (M:List α):Prop where
 b1:1≤b
 i1:1≤i
 i2:b+i≤(l.length:Int)
 k1:1≤k
 k2:k < b+i
 len:M.length=l.length
 e:M.take k.toNat=amJ d l (b+i).toNat
 rest: ∀ j:Nat,b+i≤(j:Int)+1→M.getD j d=l.getD j d
theorem akN (h:l.length < 2):l=amJ d l l.length:=by
 rw[aiK d l l.length (Nat.le_refl _) fun j h1 h2=>by omega,List.take_length]
theorem ajP (h:2≤(l.length:Int)):Cp1 d l 1:=⟨by omega,by omega,fun j h1 h2=>by omega⟩
theorem ajQ {k:Int} (h:Cp1 d l k) (hk:k < (l.length:Int)) (hne:gD d l k≠gD d l (k - 1)):Cp1 d l (k+1):=
 ⟨by have:=h.k0;omega,by omega,fun j h1 h2=>by
  by_cases hj:(j:Int) < k
  ·exact h.ne j h1 hj
  ·have e:k.toNat=j:=by omega
   have e2:(k - 1).toNat=j - 1:=by omega
   unfold gD at hne
   rw[e,e2] at hne
   exact hne⟩
theorem akE {k:Int} (h:Cp1 d l k) (hk: ¬ k < (l.length:Int)):l=amJ d l l.length:=by
 rw[aiK d l l.length (Nat.le_refl _) fun j h1 h2=>h.ne j h1 (by omega),List.take_length]
theorem ajR {k:Int} (h:Cp1 d l k) (hk:k < (l.length:Int)) (he:gD d l k=gD d l (k - 1)):Cp2 d l k k 1 l:=by
 obtain⟨k0,k1,ne⟩:=h
 refine⟨k0,by omega,by omega,k0,by omega,rfl,?_,fun _ _=>rfl⟩
 have e:(k+1).toNat=k.toNat+1:=by omega
 rw[e]
 show _=aiF _ _
 obtain⟨m,hm⟩: ∃ m,k.toNat=m+1:=⟨k.toNat - 1,by omega⟩
 have hid:amJ d l k.toNat=l.take k.toNat:=aiK d l _ (by omega) fun j h1 h2=>ne j h1 (by omega)
 unfold gD at he
 have e2:(k - 1).toNat=m:=by omega
 rw[e2] at he
 unfold aiF
 rw[hm,oP, ← hm,if_pos (by rw[he]),hid]
theorem ajS {b k i:Int} {M:List α} (h:Cp2 d l b k i M) (hi:b+i < (l.length:Int)) (he:gD d M (b+i)=gD d M (b+(i - 1))):Cp2 d l b k (i+1) M:=by
 obtain⟨b1,i1,i2,k1,k2,len,e,rest⟩:=h
 refine⟨b1,by omega,by omega,k1,by omega,len,?_,fun j hj=>rest j (by omega)⟩
 have e1:(b+(i+1)).toNat=(b+i).toNat+1:=by omega
 obtain⟨m,hm⟩: ∃ m,(b+i).toNat=m+1:=⟨(b+i).toNat - 1,by omega⟩
 unfold gD at he
 have e2:(b+(i - 1)).toNat=m:=by omega
 rw[e2,rest _ (by omega),rest _ (by omega)] at he
 rw[e1,e]
 show _=aiF _ _
 unfold aiF
 rw[hm,oP, ← hm,if_pos (by rw[he])]
theorem akG {b k i:Int} {M:List α} (h:Cp2 d l b k i M) (hi:b+i < (l.length:Int)) (hne:gD d M (b+i)≠gD d M (b+(i - 1))):Cp2 d l b (k+1) (i+1) (M.set k.toNat (gD d M (b+i))):=by
 obtain⟨b1,i1,i2,k1,k2,len,e,rest⟩:=h
 refine⟨b1,by omega,by omega,by omega,by omega,by rw[List.length_set,len],?_,fun j hj=>?_⟩
 ·have e1:(b+(i+1)).toNat=(b+i).toNat+1:=by omega
  have e3:(k+1).toNat=k.toNat+1:=by omega
  obtain⟨m,hm⟩: ∃ m,(b+i).toNat=m+1:=⟨(b+i).toNat - 1,by omega⟩
  unfold gD at hne ⊢
  have e2:(b+(i - 1)).toNat=m:=by omega
  rw[e2,rest _ (by omega),rest _ (by omega)] at hne
  rw[rest _ (by omega)]
  rw[e1,e3]
  show _=aiF _ _
  unfold aiF
  rw[hm,oP, ← hm,if_neg (fun h=>hne (Option.some.inj h).symm), ← e]
  rw[List.take_succ_eq_append_getElem (by rw[List.length_set];omega),List.getElem_set_self,List.take_set_of_le (Nat.le_refl _)]
 ·rw[← rest j (by omega)]
  rw[List.getD_eq_getElem?_getD,List.getD_eq_getElem?_getD,List.getElem?_set_ne (by omega)]
theorem akF {b k i:Int} {M:List α} (h:Cp2 d l b k i M) (hi: ¬ b+i < (l.length:Int)):k < (l.length:Int)∧M.take k.toNat=amJ d l l.length:=by
 obtain⟨b1,i1,i2,k1,k2,len,e,rest⟩:=h
 refine⟨by omega,?_⟩
 rw[e];congr 1;omega
theorem akH {M:List α} {k:Int} (h0:0≤k) (h1:k≤(M.length:Int)) (X Y:List α):((M.take k.toNat).drop (0:Int).toNat++(X++Y)).take k.toNat=M.take k.toNat:=by
 rw[Int.toNat_zero,List.drop_zero,List.take_append_of_le_length (by rw[List.length_take];omega),List.take_take,Nat.min_self]
end
end Go.Eng
