
import Derived.Test.YtbfknjpggfkgjaaGreatSpecR7
set_option linter.all false
set_option exponentiation.threshold 3000
namespace Go.Eng
theorem an1 {T T':List I3} (h:T.Perm T'):(aoL T).Perm (aoL T'):=by
 unfold aoL
 exact h.flatMap_right _
theorem am4 {L L':List (Int×Int)} (h:L.Perm L') (a b:Int):aoG L a b=aoG L' a b:=by
 unfold aoG;rw[h.countP_eq]
theorem ao0 {l l':List Int} (h:l.Perm l'):l.sum=l'.sum:=by
 induction h with
 | nil=>rfl
 | cons x _ ih=>rw[List.sum_cons,List.sum_cons,ih]
 | swap x y l=>simp only[List.sum_cons];omega
 | trans _ _ h1 h2=>rw[h1,h2]
theorem aoX {T T' L L':List (Int×Int)} (h:T.Perm T') (hL:L.Perm L'):aq1 T L=aq1 T' L':=by
 unfold aq1
 have:L.map (fun e=>1 - aoG T e.2 e.1)=L.map fun e=>1 - aoG T' e.2 e.1:=List.map_congr_left fun e _=>by rw[am4 h]
 rw[this]
 exact ao0 (hL.map _)
structure anU (T:List I3) (want:Int):Prop where
 len:(T.length:Int)=want
 one: ∀ e,e∈aoL T→aoG (aoL T) e.1 e.2=1∧aoG (aoL T) e.2 e.1≤1
 out:aq1 (aoL T) (aoL T)=7
theorem an5 {T:List I3} {want:Int} (h:anS T want=true):anU T want:=by
 unfold anS at h
 simp only[Bool.and_eq_true,decide_eq_true_eq] at h
 obtain⟨h1,h2,h3⟩:=h
 refine⟨h1,fun e he=>?_,h3⟩
 have:=List.all_eq_true.1 h2 e he
 simpa using this
theorem an6 {T T':List I3} {want:Int} (h:anU T want) (p:T.Perm T'):anU T' want:=by
 have pe:=an1 p
 refine⟨by rw[← p.length_eq];exact h.len,fun e he=>?_,?_⟩
 ·have:=h.one e (pe.mem_iff.2 he)
  rw[am4 pe,am4 pe] at this
  exact this
 ·rw[← aoX pe pe];exact h.out
def arR (l:List PcR):List Pt:=f7.srt (dT.pts (dT.all (f7.srt (dT.cors l)) l))
def anV (l:List PcR):List I3:=dT.srt3 (dT.tris (arR l) (dT.all (f7.srt (dT.cors l)) l))
theorem aqH {n:Int} (h0:1≤n) (h1:n≤6) (up:Bool):anU (anV (z5 n up)) (if up then 13 else 9):=by
 have p:(apU n up).Perm (anV (z5 n up)):=by
  show List.Perm _ (ajM cmp3 _)
  unfold ajM
  exact(List.mergeSort_perm _ _).symm
 refine an6 ?_ p
 cases up
 ·have:=List.all_eq_true.1 arX (n - 1).toNat (List.mem_range.2 (by omega))
  rw[show(((n - 1).toNat:Nat):Int)+1=n by omega] at this
  exact an5 this
 ·have:=List.all_eq_true.1 arY (n - 1).toNat (List.mem_range.2 (by omega))
  rw[show(((n - 1).toNat:Nat):Int)+1=n by omega] at this
  exact an5 this
end Go.Eng
