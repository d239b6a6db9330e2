
import Derived.Test.YtklnlmebjeoidaaGreatSpecP4
set_option linter.all false
set_option exponentiation.threshold 3000
set_option maxRecDepth 100000
set_option maxHeartbeats 4000000
namespace Go.Eng
def ahL (H:SH) (k:Int):Nat→List Pt
 | 0=>[]
 | n+1=>ahL H k n++[H.at_ k ((n:Int) - 1)]
def ag6 (H:SH) (h:Int):Nat→List Pt
 | 0=>[]
 | c+1=>ag6 H h c++ahL H ((c:Int) - 1) (h+3).toNat
theorem ag7 (H:SH) (k:Int): ∀ n,(ahL H k n).length=n
 | 0=>rfl
 | n+1=>by unfold ahL;rw[List.length_append,ag7 H k n];rfl
theorem ag5 (H:SH) (h:Int): ∀ c,(ag6 H h c).length=c*(h+3).toNat
 | 0=>by unfold ag6;simp
 | c+1=>by unfold ag6;rw[List.length_append,ag5 H h c,ag7,Nat.succ_mul]
def ahZ (w h:Int):List Pt:=dL.rim ⟨bD.whole 0,bD.whole w⟩ ⟨bD.whole 0,bD.whole h⟩ ⟨bD.whole 0,bD.whole h⟩ (ag6 bD h (w+3).toNat)
def ahO (r:List Pt) (i:Nat):Bool:=dX [pC r i,pC r (((i:Int)+1) % aY r),pC r (((i:Int)+1) % aY r)]&&decide (bD.dot (pC r i) (pC r (((i:Int)+1) % aY r)) (pC r (((i:Int)+1) % aY r))=bD.whole 1)
def ahB (w h:Int):Bool:=(fun r=>((decide (aY r=2*(w+h))&&(List.range r.length).all (ahO r))&&decide (pC r 0=bD.at_ 0 0))&&decide (pC r 1=bD.at_ 1 0)) (ahZ w h)
theorem ahF:((List.range 6).all fun i=>(List.range 6).all fun j=>ahB ((i:Int)+1) ((j:Int)+1))=true:=by decide +kernel
theorem ahM {w h:Int} (w0:1≤w) (w1:w≤6) (h0:1≤h) (h1:h≤6):ahB w h=true:=by
 have a:=List.all_eq_true.1 ahF (w - 1).toNat (List.mem_range.2 (by omega))
 have b:=List.all_eq_true.1 a (h - 1).toNat (List.mem_range.2 (by omega))
 rwa [show(((w - 1).toNat:Nat):Int)+1=w by omega,show(((h - 1).toNat:Nat):Int)+1=h by omega] at b
structure ahJ (r:List Pt) (w h:Int):Prop where
 len:aY r=2*(w+h)
 step: ∀ i:Nat,i < r.length→ahO r i=true
 p0:pC r 0=bD.at_ 0 0
 p1:pC r 1=bD.at_ 1 0
theorem ahT {w h:Int} (w0:1≤w) (w1:w≤6) (h0:1≤h) (h1:h≤6):ahJ (ahZ w h) w h:=by
 have a:=ahM w0 w1 h0 h1
 unfold ahB at a
 simp only[Bool.and_eq_true,decide_eq_true_eq] at a
 obtain⟨⟨⟨a1,a2⟩,a3⟩,a4⟩:=a
 exact⟨a1,fun i hi=>List.all_eq_true.1 a2 i (List.mem_range.2 hi),a3,a4⟩
end Go.Eng
