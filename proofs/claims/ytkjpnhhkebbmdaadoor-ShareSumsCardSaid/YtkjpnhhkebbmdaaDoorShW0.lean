/-
  Shares: what stands while dice are thrown.
-/
import Derived.Test.YtkjpnhhkebbmdaaDoorShV
namespace Go.Proofs.YtkjpnhhkebbmdaaDoor
open Go.RowKit

theorem PlanCell.mv {w w' : World} {x D : Nat} {p n h : Int} (H : PlanCell w x p n h) (hg : w.grownBy w' (some D)) (hne : x ≠ D) : PlanCell w' x p n h := H.keep (hg.block x H.lt (fun e => by injection e with e; exact hne e))
theorem grown_undrew {w w' : World} {r : Option Nat} (h : w.drew.grownBy w' r) : w.grownBy w' r := ⟨h.os, h.tape, h.output, h.size, h.block⟩
theorem Env.bases {w w' : World} {D : Nat} {R : List Int} (h : Env w w' D R) (hB : Bases w) : Bases w' := hB.below h.below hB.1
theorem ShErr.open_ {S : List Shr} {er : Int} {w w' : World} {e : Ending} (h : ShErr S er w e w') : ∃ A c, e = .returned (.tuple #[.slice A S.length c, .int .i64 er]) ∧ ShP (fun b => w.heap.size ≤ b) w' A c S ∧ Below w.heap.size w w' := h
theorem ShP.away {w w' : World} {D : Nat} {A : Option Addr} {c : Nat} {S : List Shr} (h : ShP (fun b => w.heap.size ≤ b) w' A c S) (hD : D < w.heap.size) : ShP (· ≠ D) w' A c S := h.mono fun b _ hb => by omega
theorem short_shL {N : List ShN} (h : ∀ k, k < N.length → (vN N k).length ≤ 1048576) : Short (shL N) := fun k hk => by
  rw [shL_len] at hk
  rw [vS_shL, len_ofN]; exact h k hk
theorem OnP.short {p h m : Nat} {F : Nat → List Nat} {N : List ShN} (H : OnP p h m F N) (hm : m ≤ 1048576) : Short (shL N) := short_shL fun k hk => by rw [(H.at_ hk).2.2]; simp; exact hm
end Go.Proofs.YtkjpnhhkebbmdaaDoor
