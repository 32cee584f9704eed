/- What the printed conditions name: bits, the order of regions in this program. -/
import Derived.Test.YtohgihgddknmmaaDen
import Derived.KernelRfl
namespace Go.Proofs.Ytohgihgddknmmaa
open Go Go.RowKit

theorem _root_.Go.Proofs.Try.wide_mixed : Try.prog.follows .mixedOrders = true := by kernel_rfl

def bAnd (k : IntKind) (x y : Int) : Int := k.wrap (BitVec.ofInt k.bits x &&& BitVec.ofInt k.bits y).toNat
def bOr (k : IntKind) (x y : Int) : Int := k.wrap (BitVec.ofInt k.bits x ||| BitVec.ofInt k.bits y).toNat
def bXor (k : IntKind) (x y : Int) : Int := k.wrap (BitVec.ofInt k.bits x ^^^ BitVec.ofInt k.bits y).toNat
def bAndNot (k : IntKind) (x y : Int) : Int := k.wrap (BitVec.ofInt k.bits x &&& ~~~ BitVec.ofInt k.bits y).toNat

end Go.Proofs.Ytohgihgddknmmaa
