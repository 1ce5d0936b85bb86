/-
  The law AttackerMade returns true for every input, and each argument reads afterwards as it read before. No conditions.
-/
import Derived.Test.YtjckpammcgeloaaDoorM15
import Derived.Test.YtjckpammcgeloaaDoorRows
import Derived.ProofKit
import Derived.OpenShut
import Derived.ShutString
import Derived.ChangeOld
import Derived.Lib.SmallJoins
import Derived.Test.YtjckpammcgeloaaDoorCards
import Derived.Test.YtjckpammcgeloaaDoorTie
import Derived.Deep.DeepHandedRow
import Derived.Lib.LaidTab
namespace Go.Proofs.YtjckpammcgeloaaDoor.attackerMade
open Go.ChangeShapes Go.WideShapes Go.ChangeAt Go.RowKit
open Go.Joins (array4)
set_option linter.unusedVariables false

theorem own : ownKnob Tryd.prog.godebug = none := by kernel_rfl
theorem laidOut : laidOutB Tryd.prog = true := by kernel_rfl


theorem gTab : Tryd.prog.globalNamed "reportescrow/field.bases" = some 0 := by kernel_rfl
theorem gTabType : (Tryd.prog.globals[0]?).map (·.type) = some 86 := by kernel_rfl
theorem cellsT : Tryd.prog.cellsOf 86 = 4 := by kernel_rfl
theorem cellsE : Tryd.prog.cellsOf 3 = 1 := by kernel_rfl
/-- What the row's list gives: the table's cells hold its four numbers. -/
theorem table {W : World} (h : laidMetH Tryd.prog Rows.attackerMadeRow.laid W) : Lib.TabIs Tryd.prog W "reportescrow/field.bases" .i64 [2, 3, 5, 7] :=
  Lib.tabIs_of_head (rest := []) gTab gTabType Tryd.underlying86 Tryd.underlying3 cellsE cellsT h
theorem bases {W : World} (h : laidMetH Tryd.prog Rows.attackerMadeRow.laid W) : Bases W := by
  have c0 : W.cell? ⟨0, 0, none⟩ = some (.int .i64 2) := (table h).cell gTab 0 (by decide)
  exact ⟨cell_block_lt c0, c0, (table h).cell gTab 1 (by decide), (table h).cell gTab 2 (by decide), (table h).cell gTab 3 (by decide)⟩

set_option maxRecDepth 100000 in
theorem contract (H : Type) (enc : TypeId × Value → H) (W : World) (base : Nat) (args : Array Value) (ds gs : List (DataW H)) (before : List MemPlace)
    (hval : ∀ (j : Nat) t v, Tryd.f3.params[j]? = some t → args[j]? = some v → Value.okWide Tryd.prog W .any base t v)
    (hW : DataW.Whole enc Tryd.prog Tryd.f3.params.toList Rows.attackerMadeSpec.vars false W args.toList ds gs before) (hL : laidMetH Tryd.prog Rows.attackerMadeRow.laid W) :
    Calls Tryd.prog 3 args W fun e W' => ∃ v, e = .returned v ∧ Rows.attackerMadeSpec.post enc Tryd.prog Tryd.f3 false true false false W args v W' := by
  have hW' := hW
  obtain ⟨p, q, hA0, hV, rfl, hfz, hnd⟩ := hW
  have hA : DataW.TrodAll enc Tryd.prog W 0 (fun _ => true) true Tryd.f3.params.toList args.toList ds p := hA0
  rw [Tryd.params3] at hA hval
  obtain ⟨v0, vs0, d0, ds0, p0, q0, hargs, rfl, rfl, h0, r0x⟩ := trodAll_cons hA
  obtain ⟨v1, vs1, d1, ds1, p1, q1, rfl, rfl, rfl, h1, r1x⟩ := trodAll_cons r0x
  obtain ⟨rfl, rfl, rfl⟩ := trodAll_nil r1x
  obtain rfl : args = #[v0, v1] := by cases args; simp_all
  obtain ⟨rfl, rfl⟩ := trodVars_none hV
  have k0 := h0
  have lt0 : ∀ x ∈ p0, x.block < W.heap.size := by obtain ⟨m, hm⟩ := k0; exact DataW.trod_lt m _ _ _ hm
  obtain ⟨a0, len0, cap0, rfl⟩ := okWide_slice Tryd.underlying22 (hval 0 22 v0 rfl rfl)
  obtain ⟨z0, hlen0, hle0, w0, r0⟩ : ∃ zs : List Int, zs.length = len0 ∧ zs.length ≤ maxLen ∧ IntsAt W a0 zs ∧ ∀ n ∈ zs, -9223372036854775808 ≤ n ∧ n ≤ 9223372036854775807 := by
    obtain ⟨fuel, hf⟩ := h0
    rcases open_ints Tryd.underlying22 Tryd.underlying3 (by kernel_rfl) hf with ⟨hcs, _⟩ | ⟨x, l, c, zs, hcs, _, hl, hm, hz, _, hcell, hwz⟩
    · simp [Value.cells] at hcs
      obtain ⟨rfl, rfl, rfl⟩ := hcs
      exact ⟨[], rfl, by simp [maxLen], IntsAt.nil _ _, by simp⟩
    · simp [Value.cells] at hcs
      obtain ⟨rfl, rfl, rfl⟩ := hcs
      exact open_row hl hm (by simpa using hz) hcell (fun n hn => bounds_i64 (hwz n hn))
  subst hlen0
  have k1 := h1
  have lt1 : ∀ x ∈ p1, x.block < W.heap.size := by obtain ⟨m, hm⟩ := k1; exact DataW.trod_lt m _ _ _ hm
  obtain ⟨cs1, rfl, hsz1⟩ : ∃ cs, v1 = .agg cs ∧ cs.size = Tryd.prog.cellsOf 23 := by
    have hv := hval 1 23 v1 rfl rfl
    simp only [Value.okWide, Tryd.underlying23] at hv
    obtain ⟨cs, h1, h2, _⟩ := hv
    exact ⟨cs, h1, h2⟩
  obtain ⟨c10, c11, rfl⟩ := Go.Joins.array2 (hsz1.trans (by kernel_rfl : Tryd.prog.cellsOf 23 = 2))
  obtain ⟨fuel1, hf1⟩ := h1
  simp only [Value.cells] at hf1
  obtain ⟨y10, y11, n1, _, g10, g11⟩ := trod_array2 Tryd.underlying23 (by kernel_rfl) hf1
  obtain ⟨a10, e10, _, w10⟩ := DataW.trod_int Tryd.underlying3 g10
  simp only [List.cons.injEq, and_true] at e10
  subst e10
  have b10 := bounds_i64 w10
  obtain ⟨a11, e11, _, w11⟩ := DataW.trod_int Tryd.underlying3 g11
  simp only [List.cons.injEq, and_true] at e11
  subst e11
  have b11 := bounds_i64 w11
  clear hA0
  refine (attackerMade_walk a0 z0 cap0 a10 a11 W (bases hL) hle0 w0 r0 b10 b11).mono fun e W' hR => ?_
  obtain ⟨he, bel⟩ := hR
  subst he
  exact ⟨_, rfl, _, _, _, [], _, [], hW', trodAll_mk1 (shut_bool Tryd.underlying4 _), (trodAll_cons_mk (Below.trod laidOut (by kernel_rfl) (of_decide_eq_true (by kernel_rfl)) k0 bel lt0) (trodAll_cons_mk (Below.trod laidOut (by kernel_rfl) (of_decide_eq_true (by kernel_rfl)) k1 bel lt1) trodAll_mk0)), rfl, bel.frame _, fun h => by cases h⟩

noncomputable def laidWorld (os : Os) : World :=
  { World.holding Tryd.prog os ⟨#[], #[], []⟩ with heap := (World.holding Tryd.prog os ⟨#[], #[], []⟩).heap.modify 0 fun
      | .cells _ t frozen => .cells #[.int .i64 2, .int .i64 3, .int .i64 5, .int .i64 7] t frozen
      | o => o }
theorem laid_met (os : Os) : laidMet Tryd.prog Rows.attackerMadeRow.laid ((laidWorld os).forCall (fun _ _ => 0) ⟨#[], #[.slice none 0 0, .agg #[.int .i64 0, .int .i64 0]], []⟩).memory :=
  laidMet_of_run' 8 (by kernel_rfl) (by kernel_rfl)
theorem reads (os : Os) {H : Type} (enc : TypeId × Value → H) : ∃ places, DataW.whole enc Tryd.prog ((laidWorld os).forCall (fun _ _ => 0) ⟨#[], #[.slice none 0 0, .agg #[.int .i64 0, .int .i64 0]], []⟩).memory Tryd.f3.params.toList Rows.attackerMadeSpec.vars false #[.slice none 0 0, .agg #[.int .i64 0, .int .i64 0]].toList 8 = some ([.nil, .agg [.lit (.int .i64 0), .lit (.int .i64 0)]], [], places) :=
  ⟨[], by kernel_rfl⟩

set_option maxRecDepth 100000 in
theorem lifted (os : Os) (started : os.Started) (H : Type) (enc : TypeId × Value → H) (F : Stop.Interp) :
    ReturnsInHanded {} Tryd.checked os 3 .any ((OpenSpec.ofChange Rows.attackerMadeSpec).preRow enc Tryd.prog Tryd.f3 Rows.attackerMadeRow.domain false Rows.attackerMadeRow.laid) (((OpenSpec.ofChange Rows.attackerMadeSpec).at F).post enc Tryd.prog Tryd.f3 false true false false) := by
  obtain ⟨places, hx⟩ := reads os enc
  refine returnsInHanded_of_row (C := Tryd.checked) (s := OpenSpec.ofChange Rows.attackerMadeSpec) own started (by kernel_rfl) Tryd.func3
    (witness_row_at (enc := enc) (C := Tryd.checked) false (laidWorld os) #[.slice none 0 0, .agg #[.int .i64 0, .int .i64 0]] rfl (by kernel_rfl) (by kernel_rfl) (by kernel_rfl)
      (OpenSpec.preRow_of_cond 8 hx (by kernel_rfl) (fun k hk => by cases hk) (by kernel_rfl) (laid_met os))) ?_
  intro W base args ds gs before hval hW _ _ _ hL _ _
  exact contract H enc W base args ds gs before hval hW hL

theorem said : Rows.AttackerMadeSaid :=
  OpenClaim.holds_of_cond 3 Tryd.f3 rfl rfl rfl rfl rfl rfl rfl ⟨rfl, rfl, rfl, rfl, rfl⟩ rfl rfl rfl rfl rfl (by kernel_rfl) Tryd.func3 (by kernel_rfl)
    (of_decide_eq_true (by kernel_rfl)) (by unfold Func.isWrapper; first | (rw [if_pos (by decide +kernel)]; kernel_rfl) | (rw [if_neg (by decide +kernel)]; exact ⟨rfl, rfl⟩))
    (fun os started H enc _ F => by rw [OpenClaim.pre_eq_preRow]; exact lifted os started H enc F)

theorem plain (f : FuncId) (fn : Func) (hf : Tryd.pinned.checked.prog.funcNamed "reportescrow/reportescrowlaw42.AttackerMade" = some f) (hfn : Tryd.pinned.checked.prog.funcs[f]? = some fn) :
    false = Tryd.pinned.checked.prog.looks [] ∧ ∀ (j : Nat) t, fn.params[j]? = some t → Tryd.pinned.checked.prog.wantsStandIn t = false := by
  obtain rfl : f = 3 := Option.some.inj ((show Tryd.prog.funcNamed "reportescrow/reportescrowlaw42.AttackerMade" = some 3 by kernel_rfl).symm.trans hf) |>.symm
  obtain rfl : fn = Tryd.f3 := (Option.some.inj (Tryd.func3.symm.trans hfn)).symm
  refine ⟨by kernel_rfl, fun j t ht => ?_⟩
  rw [Tryd.params3] at ht
  have hm := Array.mem_of_getElem? ht
  simp at hm
  rcases hm with rfl | rfl
  · exact (show Tryd.prog.wantsStandIn 22 = false by kernel_rfl)
  · exact (show Tryd.prog.wantsStandIn 23 = false by kernel_rfl)

/-- The statement. -/
theorem proved : Rows.AttackerMadeCardSaid :=
  Claim7.holds_tied_plain_at .later [] _ _ _ _ said (fun _ h => by cases h) (by kernel_rfl) (fun _ h => by cases h) attackerMade_row_tie rfl ⟨rfl, rfl⟩ (by kernel_rfl) rfl plain (by kernel_rfl)
#print axioms proved
end Go.Proofs.YtjckpammcgeloaaDoor.attackerMade
