/- New. -/
import Derived.Test.YtppllhdocajfiaaZ
set_option linter.unusedSimpArgs false
set_option linter.unusedVariables false
namespace Go.Proofs.Ytppllhdocajfiaa
open Go.RowKit

/-- A new disk. -/
def Dk.new : Dk := { med := fun _ => List.replicate 128 0, cache := [], armed := false, left := 0, down := false, acts := 0 }

theorem new_at (w : World) : DiskAt (w.alloc (.cells Try.zeroCells98 98)) w.heap.size w.heap.size Dk.new := by
  have tail : ∀ i, Try.zeroCells98[131072 + i]? = [Value.slice none 0 0, .bool false, .int .i64 0, .bool false, .int .i64 0][i]? := fun i => by
    rw [← zero98_tail, List.getElem?_drop, Array.getElem?_toList]
  refine ⟨⟨fun s => by simp [Dk.new], by simp [Dk.new], by simp [Dk.new], by simp [Dk.new]⟩, by simp, Try.zeroCells98, .slice none 0 0, heap_alloc_new w _, ⟨by simp, fun s j hs hj => ?_, tail 0, tail 1, tail 2, tail 3, tail 4⟩, .inl ⟨rfl, rfl⟩⟩
  have := chkZ_get 131072 _ zero98_med (s * 128 + j) (by omega)
  rw [Array.getElem?_toList] at this
  rw [this]
  have e : (List.replicate 128 (0 : UInt8)).getD j 0 = 0 := by simp only [List.getD, List.getElem?_replicate]; split <;> rfl
  show _ = some (bv ((List.replicate 128 (0 : UInt8)).getD j 0))
  rw [e]
  rfl

set_option maxRecDepth 100000 in
theorem New_any (w : World) : Calls Try.prog 38 #[] w fun e w' => e = .returned (.pointer (some ⟨w.heap.size, 0, none⟩)) ∧ DiskAt w' w.heap.size w.heap.size Dk.new ∧ Fr No w w' := by
  have h := Lib.hid (new_at w)
  go_enter Try.func38, Try.ntmps38
  go_wp2
  go_ret
  exact ⟨rfl, h.out, (Fr.refl _ _).alloc _⟩
end Go.Proofs.Ytppllhdocajfiaa
