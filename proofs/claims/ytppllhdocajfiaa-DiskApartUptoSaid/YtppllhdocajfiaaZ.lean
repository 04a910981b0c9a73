/- The cells of a new disk: asked of the kernel. -/
import Derived.Test.YtppllhdocajfiaaC1
set_option linter.unusedSimpArgs false
set_option linter.unusedVariables false
namespace Go.Proofs.Ytppllhdocajfiaa
open Go.RowKit

def isZ : Value → Bool
  | .int .u8 n => n == 0
  | _ => false
def chkZ : List Value → Nat → Bool
  | _, 0 => true
  | [], _ => false
  | v :: l, k + 1 => isZ v && chkZ l k
theorem chkZ_get : ∀ (k : Nat) (l : List Value), chkZ l k = true → ∀ i, i < k → l[i]? = some (.int .u8 0)
  | 0, _, _, i, hi => by omega
  | k + 1, [], h, _, _ => by simp [chkZ] at h
  | k + 1, v :: l, h, i, hi => by
    simp only [chkZ, Bool.and_eq_true] at h
    cases i with
    | zero =>
      have h1 := h.1
      unfold isZ at h1
      split at h1
      · simp at h1; subst h1; rfl
      · cases h1
    | succ i => simpa using chkZ_get k l h.2 i (by omega)
theorem zero98_med : chkZ Try.zeroCells98.toList 131072 = true := by kernel_rfl
theorem zero98_tail : Try.zeroCells98.toList.drop 131072 = [.slice none 0 0, .bool false, .int .i64 0, .bool false, .int .i64 0] := by kernel_rfl

end Go.Proofs.Ytppllhdocajfiaa
