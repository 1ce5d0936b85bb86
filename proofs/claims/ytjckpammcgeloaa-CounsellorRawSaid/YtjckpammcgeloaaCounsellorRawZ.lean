/-
  The law CounsellorRaw returns true for every input, and each argument reads afterwards as it read before. No conditions.
-/
import Derived.Test.YtjckpammcgeloaaM11
import Derived.Test.YtjckpammcgeloaaRows
import Derived.ProofKit
import Derived.OpenShut
import Derived.ShutString
import Derived.ChangeOld
import Derived.Lib.SmallJoins
namespace Go.Proofs.Ytjckpammcgeloaa.counsellorRaw
open Go.ChangeShapes Go.WideShapes Go.ChangeAt Go.RowKit
open Go.Joins (array4)
set_option linter.unusedVariables false

theorem own : ownKnob Try.prog.godebug = none := by kernel_rfl
theorem laidOut : laidOutB Try.prog = true := by kernel_rfl

set_option maxRecDepth 100000 in
theorem lifted (os : Os) (started : os.Started) (H : Type) (enc : TypeId × Value → H) :
    ReturnsInHanded {} Try.checked os 6 .any (Rows.counsellorRawSpec.pre6 enc Try.prog Try.f6 Rows.counsellorRawRow.domain false) (Rows.counsellorRawSpec.post enc Try.prog Try.f6 false true false false) := by
  refine returnsInHanded_of_change (C := Try.checked) own started (by kernel_rfl) Try.func6
    (ChangeSpec.witness6 (enc := enc) (C := Try.checked) false ⟨#[], #[.agg #[.slice none 0 0, .slice none 0 0], .agg #[.string ⟨#[]⟩, .string ⟨#[]⟩], .agg #[.int .i64 0, .int .i64 0]], []⟩ 8 (by kernel_rfl) (by kernel_rfl) (by kernel_rfl) (by kernel_rfl)) ?_
  intro W base args ds gs before hval0 hW hcnd _
  have hval : ∀ (j : Nat) t v, Try.f6.params[j]? = some t → args[j]? = some v → Value.okWide Try.prog W .any base t v := hval0
  have hW' := hW
  obtain ⟨p, q, hA0, hV, rfl, hfz, hnd⟩ := hW
  have hA : DataW.TrodAll enc Try.prog W 0 (fun _ => true) true Try.f6.params.toList args.toList ds p := hA0
  rw [Try.params6] at hA hval
  obtain ⟨v0, vs0, d0, ds0, p0, q0, hargs, rfl, rfl, h0, r0x⟩ := trodAll_cons hA
  obtain ⟨v1, vs1, d1, ds1, p1, q1, rfl, rfl, rfl, h1, r1x⟩ := trodAll_cons r0x
  obtain ⟨v2, vs2, d2, ds2, p2, q2, rfl, rfl, rfl, h2, r2x⟩ := trodAll_cons r1x
  obtain ⟨rfl, rfl, rfl⟩ := trodAll_nil r2x
  obtain rfl : args = #[v0, v1, v2] := by cases args; simp_all
  obtain ⟨rfl, rfl⟩ := trodVars_none hV
  have k0 := h0
  have lt0 : ∀ x ∈ p0, x.block < W.heap.size := by obtain ⟨m, hm⟩ := k0; exact DataW.trod_lt m _ _ _ hm
  obtain ⟨D0, w0⟩ := open_desk (hval 0 30 v0 rfl rfl) h0
  have k1 := h1
  have lt1 : ∀ x ∈ p1, x.block < W.heap.size := by obtain ⟨m, hm⟩ := k1; exact DataW.trod_lt m _ _ _ hm
  obtain ⟨cs1, rfl, hsz1⟩ : ∃ cs, v1 = .agg cs ∧ cs.size = Try.prog.cellsOf 51 := by
    have hv := hval 1 51 v1 rfl rfl
    simp only [Value.okWide, Try.underlying51] at hv
    obtain ⟨cs, h1, h2, _⟩ := hv
    exact ⟨cs, h1, h2⟩
  obtain ⟨c10, c11, rfl⟩ := Go.Joins.array2 (hsz1.trans (by kernel_rfl : Try.prog.cellsOf 51 = 2))
  obtain ⟨fuel1, hf1⟩ := h1
  simp only [Value.cells] at hf1
  obtain ⟨y10, y11, n1, _, g10, g11⟩ := trod_array2 Try.underlying51 (by kernel_rfl) hf1
  obtain ⟨a10, e10, _, b10⟩ := DataW.trod_string Try.underlying9 g10
  simp only [List.cons.injEq, and_true] at e10
  subst e10
  obtain ⟨a11, e11, _, b11⟩ := DataW.trod_string Try.underlying9 g11
  simp only [List.cons.injEq, and_true] at e11
  subst e11
  have k2 := h2
  have lt2 : ∀ x ∈ p2, x.block < W.heap.size := by obtain ⟨m, hm⟩ := k2; exact DataW.trod_lt m _ _ _ hm
  obtain ⟨cs2, rfl, hsz2⟩ : ∃ cs, v2 = .agg cs ∧ cs.size = Try.prog.cellsOf 52 := by
    have hv := hval 2 52 v2 rfl rfl
    simp only [Value.okWide, Try.underlying52] at hv
    obtain ⟨cs, h1, h2, _⟩ := hv
    exact ⟨cs, h1, h2⟩
  obtain ⟨c20, c21, rfl⟩ := Go.Joins.array2 (hsz2.trans (by kernel_rfl : Try.prog.cellsOf 52 = 2))
  obtain ⟨fuel2, hf2⟩ := h2
  simp only [Value.cells] at hf2
  obtain ⟨y20, y21, n2, _, g20, g21⟩ := trod_array2 Try.underlying52 (by kernel_rfl) hf2
  obtain ⟨a20, e20, _, w20⟩ := DataW.trod_int Try.underlying3 g20
  simp only [List.cons.injEq, and_true] at e20
  subst e20
  have b20 := bounds_i64 w20
  obtain ⟨a21, e21, _, w21⟩ := DataW.trod_int Try.underlying3 g21
  simp only [List.cons.injEq, and_true] at e21
  subst e21
  have b21 := bounds_i64 w21
  clear hA0 hval0
  refine (counsellorRaw_walk v0 D0 a10 a11 a20 a21 W w0 b10 b11 b20 b21).mono fun e W' hR => ?_
  obtain ⟨he, bel⟩ := hR
  subst he
  exact ⟨_, rfl, _, _, _, [], _, [], hW', trodAll_mk1 (shut_bool Try.underlying4 _), (trodAll_cons_mk (Below.trod laidOut (by kernel_rfl) (of_decide_eq_true (by kernel_rfl)) k0 bel lt0) (trodAll_cons_mk (Below.trod laidOut (by kernel_rfl) (of_decide_eq_true (by kernel_rfl)) k1 bel lt1) (trodAll_cons_mk (Below.trod laidOut (by kernel_rfl) (of_decide_eq_true (by kernel_rfl)) k2 bel lt2) trodAll_mk0))), rfl, bel.frame _, fun h => by cases h⟩

theorem over : Rows.counsellorRawRow.holds Try.pinned (OpenSpec.ofChange Rows.counsellorRawSpec) :=
  OpenClaim.holds_of_wide 6 Try.f6 rfl rfl rfl rfl rfl rfl rfl ⟨rfl, rfl, rfl, rfl, rfl⟩ rfl rfl rfl rfl rfl (by kernel_rfl) Try.func6 (by kernel_rfl)
    (of_decide_eq_true (by kernel_rfl)) (by unfold Func.isWrapper; first | (rw [if_pos (by decide +kernel)]; kernel_rfl) | (rw [if_neg (by decide +kernel)]; exact ⟨rfl, rfl⟩))
    (fun os started H enc _ => lifted os started H enc)

/-- The statement. -/
theorem proved : Rows.CounsellorRawSaid := over
#print axioms proved
end Go.Proofs.Ytjckpammcgeloaa.counsellorRaw
