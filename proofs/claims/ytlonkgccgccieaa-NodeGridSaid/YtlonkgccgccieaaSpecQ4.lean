
import Derived.Test.YtlonkgccgccieaaSpecQ3
set_option linter.all false
set_option exponentiation.threshold 3000
set_option maxRecDepth 100000
set_option maxHeartbeats 4000000
namespace Go.Eng
def akD (H:SH) (i:Int):Nat→List PcR
 | 0=>[]
 | k+1=>akD H i k++[(0,0,0,⟨H.whole i,H.whole (i+1)⟩,⟨H.whole (k:Int),H.whole ((k:Int)+1)⟩,⟨H.whole (k:Int),H.whole ((k:Int)+1)⟩,())]
def aiQ (H:SH) (h:Int):Nat→List PcR
 | 0=>[]
 | i+1=>aiQ H h i++akD H (i:Int) h.toNat
theorem aiR (H:SH) (i:Int): ∀ n,(akD H i n).length=n
 | 0=>rfl
 | n+1=>by unfold akD;rw[List.length_append,aiR H i n];rfl
theorem aiN (H:SH) (h:Int): ∀ c,(aiQ H h c).length=c*h.toNat
 | 0=>by unfold aiQ;simp
 | c+1=>by unfold aiQ;rw[List.length_append,aiN H h c,aiR,Nat.succ_mul]
def al0 (w h:Int):List Pt:=f7.srt (eE.cors (aiQ bD h w.toNat))
def atN (h:Int) (p:List Pt) (i:Nat):Bool:=decide (pC p i=bD.at_ ((i:Int) / (h+1)) ((i:Int) % (h+1)))
def aj5 (w h:Int):Bool:=(fun p=>decide (aY p=(w+1)*(h+1))&&(List.range p.length).all (atN h p)) (al0 w h)
theorem ajI:((List.range 6).all fun i=>(List.range 6).all fun j=>aj5 ((i:Int)+1) ((j:Int)+1))=true:=by decide +kernel
structure alG (p:List Pt) (w h:Int):Prop where
 len:aY p=(w+1)*(h+1)
 at_: ∀ i:Nat,i < p.length→pC p i=bD.at_ ((i:Int) / (h+1)) ((i:Int) % (h+1))
theorem ajV {w h:Int} (w0:1≤w) (w1:w≤6) (h0:1≤h) (h1:h≤6):alG (al0 w h) w h:=by
 have a:=List.all_eq_true.1 ajI (w - 1).toNat (List.mem_range.2 (by omega))
 have b:=List.all_eq_true.1 a (h - 1).toNat (List.mem_range.2 (by omega))
 rw[show(((w - 1).toNat:Nat):Int)+1=w by omega,show(((h - 1).toNat:Nat):Int)+1=h by omega] at b
 unfold aj5 at b
 simp only[Bool.and_eq_true,decide_eq_true_eq] at b
 exact⟨b.1,fun i hi=>of_decide_eq_true (List.all_eq_true.1 b.2 i (List.mem_range.2 hi))⟩
end Go.Eng
