/- The condition of a round of a range over a function, printed by round.py. -/
import Derived.Test.YtohgihgddknmmaaRnd
namespace Go.Proofs.Ytohgihgddknmmaa
open Go Go.RowKit
set_option linter.unusedVariables false
set_option maxRecDepth 100000

/-- a round of slices.AppendSeq[[]stagecoach/api.Mail,stagecoach/api.Mail] -/
def slices_AppendSeq_api_Mail_api_Mail_round (l : Nat) (lp : Loop) (b0 : Nat) (o0_a : Option Addr) (o0_n : Nat) (o0_c : Nat) (x0 : Int) (x1 : Int) (x2 : Int) (x3 : Int) (x4 : Int) (x5 : Int) (x6 : Int) (x7 : Int) (x8 : Int) (x9 : Int) (x10_a : Option Addr) (x10_n : Nat) (x10_c : Nat) (x11 : Int) (x12 : Int) (x13 : Int) (x14 : Int) (x15_a : Option Addr) (x15_n : Nat) (x15_c : Nat) (x16_a : Option Addr) (x16_n : Nat) (x16_c : Nat) (R : World → Option Addr → Nat → Nat → World → Prop) (w : World) : Prop :=
  ∀ b1, w.heap.size ≤ b1 →
  ∀ w2, Adv [] [b1] w w2 →
  w2.heap[l]? = some (.loop lp) ∧
  ∀ w3, Mod [l] w2 w3 →
  al w3 (.cells #[(.int .i64 x0), (.int .i64 x1), (.int .i64 x2), (.int .i64 x3), (.int .i64 x4), (.int .i64 x5), (.int .i64 x6), (.int .i64 x7), (.int .i64 x8), (.int .i64 x9), (.slice x10_a x10_n x10_c), (.int .i64 x11), (.int .i64 x12), (.int .i64 x13), (.int .i64 x14), (.slice x15_a x15_n x15_c), (.slice x16_a x16_n x16_c)] 44) fun b4 w5 =>
  effSl Try.prog (Builtin.append_ #[54, 54] 54 #[(.slice o0_a o0_n o0_c), (.slice (some ⟨b4, 0, none⟩) 1 1)]) w5 fun a7 n8 c9 w6 => Keep [b0, b1] w5 w6 ∧
  ∀ w10, Adv [b0] [] w6 w10 → w10.heap[b0]? = some (.cells #[(.slice a7 n8 c9)] 54) →
  R w3 a7 n8 c9 w10
theorem slices_AppendSeq_api_Mail_api_Mail_round_eq (l : Nat) (lp : Loop) (b0 : Nat) (o0_a : Option Addr) (o0_n : Nat) (o0_c : Nat) (x0 : Int) (x1 : Int) (x2 : Int) (x3 : Int) (x4 : Int) (x5 : Int) (x6 : Int) (x7 : Int) (x8 : Int) (x9 : Int) (x10_a : Option Addr) (x10_n : Nat) (x10_c : Nat) (x11 : Int) (x12 : Int) (x13 : Int) (x14 : Int) (x15_a : Option Addr) (x15_n : Nat) (x15_c : Nat) (x16_a : Option Addr) (x16_n : Nat) (x16_c : Nat) (js : Nat → Value) (R : World → Option Addr → Nat → Nat → World → Prop) (w : World) :
    roundD Try.prog (subR (code Try.f55) [0, 1, 0, 1]) l lp R ⟨[(2, .pointer (some ⟨b0, 0, none⟩), some (0, 0)), (7, (.agg #[(.int .i64 x0), (.int .i64 x1), (.int .i64 x2), (.int .i64 x3), (.int .i64 x4), (.int .i64 x5), (.int .i64 x6), (.int .i64 x7), (.int .i64 x8), (.int .i64 x9), (.slice x10_a x10_n x10_c), (.int .i64 x11), (.int .i64 x12), (.int .i64 x13), (.int .i64 x14), (.slice x15_a x15_n x15_c), (.slice x16_a x16_n x16_c)]), none)], js⟩ ⟨[⟨b0, 54, [(.slice o0_a o0_n o0_c)], false⟩], w, [], [], true⟩ = slices_AppendSeq_api_Mail_api_Mail_round l lp b0 o0_a o0_n o0_c x0 x1 x2 x3 x4 x5 x6 x7 x8 x9 x10_a x10_n x10_c x11 x12 x13 x14 x15_a x15_n x15_c x16_a x16_n x16_c R w := by kernel_rfl

end Go.Proofs.Ytohgihgddknmmaa
