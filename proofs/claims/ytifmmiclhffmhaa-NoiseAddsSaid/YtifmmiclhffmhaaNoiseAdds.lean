/-
  The law NoiseAdds returns true for every input, and each argument reads afterwards as it read before. No conditions.
-/
import Derived.Test.YtifmmiclhffmhaaNoiseAddsW
import Derived.Test.YtifmmiclhffmhaaRows
import Derived.ProofKit
import Derived.OpenShut
import Derived.ShutString
import Derived.ChangeOld
import Derived.Lib.SmallJoins
namespace Go.Proofs.Ytifmmiclhffmhaa.noiseAdds
open Go.ChangeShapes Go.WideShapes Go.ChangeAt Go.RowKit
open Go.Joins (array4)
set_option linter.unusedVariables false

theorem own : ownKnob Try.prog.godebug = none := by kernel_rfl
theorem laidOut : laidOutB Try.prog = true := by kernel_rfl

set_option maxRecDepth 100000 in
theorem lifted (os : Os) (started : os.Started) (H : Type) (enc : TypeId × Value → H) :
    ReturnsInHanded {} Try.checked os 3 .any (Rows.noiseAddsSpec.pre6 enc Try.prog Try.f3 Rows.noiseAddsRow.domain false) (Rows.noiseAddsSpec.post enc Try.prog Try.f3 false true false false) := by
  refine returnsInHanded_of_change (C := Try.checked) own started (by kernel_rfl) Try.func3
    (ChangeSpec.witness6 (enc := enc) (C := Try.checked) false ⟨#[], #[.agg #[.int .u8 0, .int .u8 0, .int .u8 0, .int .u8 0]], []⟩ 8 (by kernel_rfl) (by kernel_rfl) (by kernel_rfl) (by kernel_rfl)) ?_
  intro W base args ds gs before hval0 hW hcnd _
  have hval : ∀ (j : Nat) t v, Try.f3.params[j]? = some t → args[j]? = some v → Value.okWide Try.prog W .any base t v := hval0
  have hW' := hW
  obtain ⟨p, q, hA0, hV, rfl, hfz, hnd⟩ := hW
  have hA : DataW.TrodAll enc Try.prog W 0 (fun _ => true) true Try.f3.params.toList args.toList ds p := hA0
  rw [Try.params3] at hA hval
  obtain ⟨v0, vs0, d0, ds0, p0, q0, hargs, rfl, rfl, h0, r0x⟩ := trodAll_cons hA
  obtain ⟨rfl, rfl, rfl⟩ := trodAll_nil r0x
  obtain rfl : args = #[v0] := by cases args; simp_all
  obtain ⟨rfl, rfl⟩ := trodVars_none hV
  have k0 := h0
  have lt0 : ∀ x ∈ p0, x.block < W.heap.size := by obtain ⟨m, hm⟩ := k0; exact DataW.trod_lt m _ _ _ hm
  obtain ⟨cs0, rfl, hsz0⟩ : ∃ cs, v0 = .agg cs ∧ cs.size = Try.prog.cellsOf 22 := by
    have hv := hval 0 22 v0 rfl rfl
    simp only [Value.okWide, Try.underlying22] at hv
    obtain ⟨cs, h1, h2, _⟩ := hv
    exact ⟨cs, h1, h2⟩
  obtain ⟨c00, c01, c02, c03, rfl⟩ := array4 (hsz0.trans (by kernel_rfl : Try.prog.cellsOf 22 = 4))
  obtain ⟨fuel0, hf0⟩ := h0
  simp only [Value.cells] at hf0
  obtain ⟨y00, y01, y02, y03, n0, _, g00, g01, g02, g03⟩ := trod_array4 Try.underlying22 (by kernel_rfl) hf0
  obtain ⟨a00, e00, _, w00⟩ := DataW.trod_int Try.underlying5 g00
  simp only [List.cons.injEq, and_true] at e00
  subst e00
  have b00 := bounds_u8 w00
  obtain ⟨a01, e01, _, w01⟩ := DataW.trod_int Try.underlying5 g01
  simp only [List.cons.injEq, and_true] at e01
  subst e01
  have b01 := bounds_u8 w01
  obtain ⟨a02, e02, _, w02⟩ := DataW.trod_int Try.underlying5 g02
  simp only [List.cons.injEq, and_true] at e02
  subst e02
  have b02 := bounds_u8 w02
  obtain ⟨a03, e03, _, w03⟩ := DataW.trod_int Try.underlying5 g03
  simp only [List.cons.injEq, and_true] at e03
  subst e03
  have b03 := bounds_u8 w03
  clear hA0 hval0
  refine (noiseAdds_walk a00 a01 a02 a03 W b00 b01 b02 b03).mono fun e W' hR => ?_
  obtain ⟨he, bel⟩ := hR
  subst he
  exact ⟨_, rfl, _, _, _, [], _, [], hW', trodAll_mk1 (shut_bool Try.underlying4 _), (trodAll_cons_mk (Below.trod laidOut (by kernel_rfl) (of_decide_eq_true (by kernel_rfl)) k0 bel lt0) trodAll_mk0), rfl, bel.frame _, fun h => by cases h⟩

theorem over : Rows.noiseAddsRow.holds Try.pinned (OpenSpec.ofChange Rows.noiseAddsSpec) :=
  OpenClaim.holds_of_wide 3 Try.f3 rfl rfl rfl rfl rfl rfl rfl ⟨rfl, rfl, rfl, rfl, rfl⟩ rfl rfl rfl rfl rfl (by kernel_rfl) Try.func3 (by kernel_rfl)
    (of_decide_eq_true (by kernel_rfl)) (by unfold Func.isWrapper; first | (rw [if_pos (by decide +kernel)]; kernel_rfl) | (rw [if_neg (by decide +kernel)]; exact ⟨rfl, rfl⟩))
    (fun os started H enc _ => lifted os started H enc)

/-- The statement. -/
theorem proved : Rows.NoiseAddsSaid := over
#print axioms proved
end Go.Proofs.Ytifmmiclhffmhaa.noiseAdds
