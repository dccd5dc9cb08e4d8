/- The plain law of FrameJoins: what the walk's function tells is true. -/
import Derived.Test.YtpfmbkknhcbeaaaFrameJoinsW3
import Derived.KernelRfl
set_option linter.unusedVariables false
set_option linter.unusedSimpArgs false
namespace Go.Proofs.Ytpfmbkknhcbeaaa.FrameJoins.W
open Go.Proofs.Ytpfmbkknhcbeaaa.G2 Go.Proofs
set_option maxRecDepth 100000
theorem fixed60 : law09_fixed 60 = some true := by kernel_rfl

set_option maxRecDepth 100000
theorem contains1 (v : GValue) : slices_ContainsFunc_Value_at47 60 [v] = some (!gauss_May v) := by
  have key : slices_IndexFunc_Value_at47_l1 60 [v] 60 0 = some (if gauss_May v then -1 else 0) := by
    rw [show slices_IndexFunc_Value_at47_l1 60 [v] 60 0 = (if !gauss_May v then some 0 else some (-1)) by kernel_rfl]
    cases gauss_May v <;> rfl
  unfold slices_ContainsFunc_Value_at47 slices_IndexFunc_Value_at47
  rw [key]
  cases gauss_May v <;> rfl
def PJ : List GFunc := [⟨1, 1, 1, [⟨1, 0, 0⟩, ⟨13, 0, 0⟩, ⟨14, 0, 0⟩, ⟨14, 0, 0⟩, ⟨15, 0, 0⟩]⟩]
theorem ofJ : law09_of 60 (⟨#[102, 117, 110, 99, 32, 49, 32, 49, 32, 49, 10, 108, 111, 97, 100, 32, 48, 10, 115, 112, 97, 119, 110, 32, 48, 32, 48, 10, 106, 111, 105, 110, 32, 48, 10, 106, 111, 105, 110, 32, 48, 10, 114, 101, 116, 10]⟩ : ByteArray) = some PJ := by kernel_rfl
theorem newJ (v : GValue) : frame_New 60 PJ 0 [v] 1 = some (if gauss_May v then (⟨0, 0, [], [v], [⟨0, ⟨0, 0⟩, ⟨0, ⟨0, 0⟩⟩⟩], 1, 0, 0, 0, 0, ⟨0, ⟨0, 0⟩⟩, ⟨-1, 0⟩, 0⟩, true) else (⟨0, 0, [], [], [], 0, 0, 0, 0, 0, ⟨0, ⟨0, 0⟩⟩, ⟨0, 0⟩, 0⟩, false)) := by
  unfold frame_New
  rw [show code_May 60 PJ = some true by kernel_rfl, contains1]
  cases gauss_May v <;> kernel_rfl
theorem pure_FrameJoins (x0 : GValue) (x1 : GOut) : ∃ K, law09_FrameJoins K x0 x1 = some true := by
  refine ⟨60, ?_⟩
  unfold law09_FrameJoins
  rw [ofJ]
  simp only [Option.bind_some]
  rw [newJ, fixed60]
  cases hM : gauss_May x0 with
  | false => by_cases h1 : x1.Trap < 0 <;> by_cases h2 : x1.Trap > 255 <;> simp [bnd, h1, h2]
  | true =>
    by_cases h1 : x1.Trap < 0
    · simp [bnd, h1]
    · by_cases h2 : x1.Trap > 255
      · simp [bnd, h1, h2]
      · simp only [bnd, Option.bind_some, h1, h2, decide_false, Bool.not_true, Bool.false_eq_true, if_false, if_true]
        obtain ⟨t, re, im⟩ := x1
        simp only at h1 h2 ⊢
        cases t with
        | negSucc n => exact absurd (Int.negSucc_lt_zero n) h1
        | ofNat n =>
          cases n with
          | zero =>
            refine Eq.trans (b := if ((re == re) && ((im == im) && true)) = true then some true else some false) (by kernel_rfl) ?_
            simp
          | succ n =>
            refine Eq.trans (b := some ((Int.ofNat (n + 1) == Int.ofNat (n + 1)) && (((0 : Int) == 0 && ((0 : Int) == 0 && true)) && true))) (by kernel_rfl) ?_
            simp

end Go.Proofs.Ytpfmbkknhcbeaaa.FrameJoins.W
