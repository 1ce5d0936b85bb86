/-
  A slice of numbers that came in reads as a list.
-/
import Derived.Test.YtkjpnhhkebbmdaaDoorKit2
namespace Go.Proofs.YtkjpnhhkebbmdaaDoor
open Go.RowKit

theorem cell_block_lt {w : World} {a : Addr} {v : Value} (h : w.cell? a = some v) : a.block < w.heap.size := by
  rcases Nat.lt_or_ge a.block w.heap.size with hlt | hge
  · exact hlt
  · unfold World.cell? at h; simp [Array.getElem?_eq_none hge] at h
theorem open_row {W : World} {x : Addr} {len cap : Nat} {zs : List Int} (hl : len ≤ cap) (hm : cap ≤ maxLen) (hz : zs.length = cap) (hcell : ∀ i, i < zs.length → W.cell? (x.add i) = some (.int .i64 (zs.getD i 0)))
    (hb : ∀ n ∈ zs, -9223372036854775808 ≤ n ∧ n ≤ 9223372036854775807) :
    ∃ ys : List Int, ys.length = len ∧ ys.length ≤ maxLen ∧ IntsAt W (some x) ys ∧ ∀ n ∈ ys, -9223372036854775808 ≤ n ∧ n ≤ 9223372036854775807 := by
  refine ⟨zs.take len, by simp; omega, by simp; omega, fun k hk => ?_, fun n hn => hb n (List.mem_of_mem_take hn)⟩
  have hk' : k < len := by simpa using Nat.lt_of_lt_of_le hk (List.length_take_le _ _)
  have h0 := hcell 0 (by omega)
  have hk0 := hcell k (by omega)
  obtain ⟨b, off, spot⟩ := x
  have hs : spot = none := by simpa [Addr.add] using World.cell?_spot h0
  subst hs
  have hlt := cell_block_lt hk0
  refine ⟨b, off, rfl, ?_, ?_⟩
  · unfold Addr.add at hlt; split at hlt <;> exact hlt
  · have e : (⟨b, off, none⟩ : Addr).add k = ⟨b, off + k, none⟩ := by
      unfold Addr.add; split
      · rename_i h; subst h; rfl
      · rfl
    rw [← e, hk0, nth_eq hk]
    simp [List.getD_eq_getElem?_getD, show k < zs.length by omega]
end Go.Proofs.YtkjpnhhkebbmdaaDoor
