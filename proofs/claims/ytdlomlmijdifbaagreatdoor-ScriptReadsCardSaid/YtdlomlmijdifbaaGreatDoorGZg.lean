/- Own texts, packed: XG, XD, XL64. -/
import Derived.Test.YtdlomlmijdifbaaGreatDoorTg
set_option maxRecDepth 100000
set_option linter.unusedVariables false
namespace Go.Proofs.YtdlomlmijdifbaaGreatDoor
open Go Go.V Go.World
def VC24(j:Int)(k:OA)(m l:Nat)(a:Int)(w:World)(R:EW):Prop:=∃(r:OA)(f s:Nat),let b:=(alloc w (.cells #[.int .u64 j,.slice k m l] 31));cell? b (nb w 1)=some (.slice r f s)/\(let c:=(alloc b (.cells #[iq 0,iq 5,iq 4611686018427387903,iq 9223372036854775807,(iq (-1:Int)),(iq (-9223372036854775808:Int))] 2));(Br ((f:Int)=0) ((0<=a/\0<(6:Int))/\Ix (some (nb b 0)) (a % (6:Int)) (6:Int) fun g=>Rd c (Addr.add g (Int.toNat (a % (6:Int)))) .i64 fun n=>R (.returned (iq n)) c) (Br (a>245) ((0<=a/\0<(6:Int))/\Ix (some (nb b 0)) (a % (6:Int)) (6:Int) fun h=>Rd c (Addr.add h (Int.toNat (a % (6:Int)))) .i64 fun o=>R (.returned (iq o)) c) (Rs (drew b) (nb w 1) fun p q t=>(0<=a/\0<(3:Int)/\aI .u8 (a / (3:Int)))/\aI .i64 ((a / (3:Int)))/\Rs (drew b) (nb w 1) fun u d v=>(0<=(a / (3:Int))/\0<(d:Int))/\Ix p ((a / (3:Int)) % (d:Int)) (q:Int) fun i=>Rd (drew b) (al i ((a / (3:Int)) % (d:Int)) 4) .i64 fun e=>(0<=a/\0<(3:Int))/\aI .i64 ((a % (3:Int)))/\aI .i64 (e+(a % (3:Int)))/\aI .i64 ((e+(a % (3:Int)))-1)/\R (.returned (iq ((e+(a % (3:Int)))-1))) (drew b)))))
theorem vc24(a b d c e w R)(f:VC24 a b d c e w R):Calls P 24 #[(.agg #[.int .u64 a,.slice b d c]),.int .u8 e] w R:=xv 35 (sq (.seq (sq cD) (.seq (.reg ⟨[],[],(dd [(1,[0]),(3,[2]),(4,[3]),(6,[5]),(7,[6]),(8,[4,7]),(9,[1,8]),(10,[9]),(11,[10]),(13,[12]),(14,[13]),(15,[11,14]),(16,[15]),(17,[16])]),[]⟩) .leaf))) Tryz.func24 f
end Go.Proofs.YtdlomlmijdifbaaGreatDoor
