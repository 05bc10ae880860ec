/- casketref01: the walks. -/
import Derived.Test.YtjhocaleampamaaDoorBits
namespace Go.Proofs.YtjhocaleampamaaDoor
open Go.RowKit
/-- A string of the bytes l. -/
def strV (l : List UInt8) : Value := .string ⟨l.toArray⟩
def putL (k x : Nat) (high : Bool) : List UInt8 := if high then (putLowL k x).reverse else putLowL k x
theorem strcat (a b : List UInt8) : (⟨a.toArray⟩ : ByteArray) ++ ⟨b.toArray⟩ = ⟨(a ++ b).toArray⟩ := ByteArray.mk_append_mk _ _
theorem run_cat (a b : List UInt8) (h : a.length + b.length ≤ 9223372036854775807) (w : World) : (Op.stringOp .add ⟨a.toArray⟩ ⟨b.toArray⟩).run Tryd.prog w = .ok (.string ⟨(a ++ b).toArray⟩) w := by
  rw [run_string_add_sum w _ _ (by simp [ByteArray.size]; omega), strcat]
end Go.Proofs.YtjhocaleampamaaDoor
