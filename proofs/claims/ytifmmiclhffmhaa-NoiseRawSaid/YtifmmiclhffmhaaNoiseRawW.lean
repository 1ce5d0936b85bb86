/-
  NoiseRaw: the walk.
-/
import Derived.Test.YtifmmiclhffmhaaNoiseAwake
namespace Go.Proofs.Ytifmmiclhffmhaa
open Go.RowKit

set_option maxHeartbeats 1000000 in
theorem noiseRaw_walk (T A B c u : Int) (w : World) (_ : -9223372036854775808 ≤ T ∧ T ≤ 9223372036854775807) (_ : -9223372036854775808 ≤ A ∧ A ≤ 9223372036854775807) (_ : -9223372036854775808 ≤ B ∧ B ≤ 9223372036854775807) (_ : -9223372036854775808 ≤ c ∧ c ≤ 9223372036854775807) (_ : -9223372036854775808 ≤ u ∧ u ≤ 9223372036854775807) :
    Calls Try.prog 5 #[nz T A B, .int .i64 c, .int .i64 u] w (RetB (.bool true) w) := by
  have r1 := modI_range T 24 (by omega)
  have r2 := modI_range A 3 (by omega)
  go_enter Try.func5, Try.ntmps5
  go_wp2_with fail
  obtain ⟨w1, hw1⟩ : ∃ w1, w1 = w.alloc (.cells #[.int .i64 T, .int .i64 A, .int .i64 B] 24) := ⟨_, rfl⟩
  have hlt : w.heap.size < w1.heap.size := by rw [hw1]; simp
  have hb : Below w.heap.size w w1 := by rw [hw1]; exact (Below.refl _ _).alloc (Nat.le_refl _) _
  have c0 : w1.cell? ⟨w.heap.size, 0, none⟩ = some (.int .i64 T) := by rw [hw1, World.cell?_alloc_at _ _ _ _ rfl]; rfl
  have c1 : w1.cell? ⟨w.heap.size, 1, none⟩ = some (.int .i64 A) := by rw [hw1, World.cell?_alloc_at _ _ _ _ rfl]; rfl
  have c2 : w1.cell? ⟨w.heap.size, 2, none⟩ = some (.int .i64 B) := by rw [hw1, World.cell?_alloc_at _ _ _ _ rfl]; rfl
  rw [← hw1]
  clear hw1
  refine wp_region_grew (by kernel_rfl) (by kernel_rfl) ?_
  repeat (go_big_quiet_step ((first
      | (go_at_call 14; exact grew_same (mod_any _ _ _ (by omega)))
      | (go_at_call 9; exact grew_of (awake_any _))
      | (go_at_call 13; exact grew_of (agree_any _ _ _ _ _ _ _)))))
  refine wpQuiet_nil ?_
  intro w2 hb2
  go_wp2
  go_ret
  exact RetB.bool rfl (hb.trans (hb2.mono hb.size))
end Go.Proofs.Ytifmmiclhffmhaa
