
import Derived.Test.YtklnlmebjeoidaaGreatSpecLm
set_option linter.all false
set_option exponentiation.threshold 3000
set_option maxRecDepth 100000
set_option maxHeartbeats 2000000
namespace Go.Eng
theorem acN (p q:Rat):0 < cZ p 0*cZ q 0↔0 < p*q:=by
 have z: ¬ (0:Rat) < 0:=by decide
 rcases dH p 0 with ⟨h,e,_⟩ | ⟨h,e,_⟩ | ⟨h,e,_⟩ <;> rcases dH q 0 with ⟨g,f,_⟩ | ⟨g,f,_⟩ | ⟨g,f,_⟩ <;> rw[e,f]
 ·exact⟨fun _=>by have:=Rat.mul_pos (show 0 < -p by grind) (show 0 < -q by grind);grind,fun _=>by decide⟩
 ·exact⟨fun h=>absurd h (by decide),fun h'=>absurd h' (by rw[g,Rat.mul_zero];exact z)⟩
 ·exact⟨fun h=>absurd h (by decide),fun h'=>by have:=Rat.mul_pos (show 0 < -p by grind) g;exfalso;grind⟩
 ·exact⟨fun h=>absurd h (by decide),fun h'=>absurd h' (by rw[h,Rat.zero_mul];exact z)⟩
 ·exact⟨fun h=>absurd h (by decide),fun h'=>absurd h' (by rw[h,Rat.zero_mul];exact z)⟩
 ·exact⟨fun h=>absurd h (by decide),fun h'=>absurd h' (by rw[h,Rat.zero_mul];exact z)⟩
 ·exact⟨fun h=>absurd h (by decide),fun h'=>by have:=Rat.mul_pos h (show 0 < -q by grind);exfalso;grind⟩
 ·exact⟨fun h=>absurd h (by decide),fun h'=>absurd h' (by rw[g,Rat.mul_zero];exact z)⟩
 ·exact⟨fun _=>Rat.mul_pos h g,fun _=>by decide⟩
structure I8 (x:Int):Prop where
 a: -128≤x
 b:x < 128
theorem I8.sm {x:Int} (h:I8 x):Sm 60 x:=by
 have:=h.a
 have:=h.b
 show x.natAbs < 2 ^ 60
 omega
end Go.Eng
