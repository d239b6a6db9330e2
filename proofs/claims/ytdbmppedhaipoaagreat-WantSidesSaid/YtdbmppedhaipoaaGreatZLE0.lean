
import Derived.Test.YtdbmppedhaipoaaGreatZCEA
import Derived.Test.YtdbmppedhaipoaaGreatZCTA
import Derived.Test.YtdbmppedhaipoaaGreatEngZA
set_option linter.all false
set_option exponentiation.threshold 3000
set_option maxRecDepth 100000
set_option maxHeartbeats 2000000
namespace Go.Eng
open Go.Proofs
def sqV (A:Alg) (x y n:Int):List (Int×Int×Int):=[(x,y,0),(A.bin .add .i64 x n,y,0),(A.bin .add .i64 x n,A.bin .add .i64 y n,0),(x,A.bin .add .i64 y n,0)]
def sqS:List (Int×Int×Int):=[(0,1,1),(1,2,2),(2,3,3),(3,0,4)]
def x8 (A:Alg):List CV→List Blk→Option LW
 | [.s (.int .i64 x), .s (.int .i64 y), .s (.int .i64 n)],[]=>some ⟨[], .c (.g [.s (.hs 0), .s (.hs 1), .s .nils]),[.vec true .i3 [(x,y,0),(A.bin .add .i64 x n,y,0),(A.bin .add .i64 x n,A.bin .add .i64 y n,0),(x,A.bin .add .i64 y n,0)], .vec true .i3 [(0,1,1),(1,2,2),(2,3,3),(3,0,4)]],[]⟩
 | _,_=>none
def PR (A:Alg):List CV→List Blk→Option LW
 | [.g [.s (.hs 0), .s (.hs 1), .s (.hs 2)]],[.vec false .i3 V, .vec false .i3 S, .vec false .pt l]=>some ⟨[], .c (.s (.bool (A.ite (A.ite (A.cmp .leq (A.len V) 18) (A.cmp .leq (A.len S) 18) false) (A.cmp .leq (A.len l) 6) false))),[],[]⟩
 | _,_=>none
def x6:List CV→List Blk→Option LW
 | [],[]=>some ⟨[], .c (.s (.bool true)),[],[]⟩
 | _,_=>none
end Go.Eng
