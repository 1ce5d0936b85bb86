/-
  Budgets: slices.IndexFunc and slices.DeleteFunc over spends.
  Budgets: slices.DeleteFunc over spends.
  Budgets: Clean, the program's.
  Budgets: Clean, the document's.
  Budgets: comparing them; all functions agree.
  Budgets made by dice: Of, Budget.
  Budgets made by dice: the walk of play.Budget.
  Published numbers: contents and noise made by dice; the sanity check.
  Published numbers: the sanity check.
  StatisticCounts: the walk.
  A slice of numbers that came in reads as a list.
  Conditions: those that each theorem names.
-/
import Derived.Test.YtmnkgfimdlhhiaaM3
import Derived.Lib.SliceRun
import Derived.Deep.AppendLies
import Derived.Deep.RegionLaw
set_option linter.unusedVariables false
set_option linter.unusedSimpArgs false
namespace Go.Proofs.Ytmnkgfimdlhhiaa
open Go.RowKit

def IxP (T : Spd → Bool) (S : List Spd) (i : Int) : Prop := (i = -1 ∧ ∀ j, j < S.length → T (S.getD j (0, 0)) = false) ∨ ∃ k : Nat, i = k ∧ k < S.length ∧ T (S.getD k (0, 0)) = true ∧ ∀ j, j < k → T (S.getD j (0, 0)) = false
set_option maxRecDepth 100000 in
set_option maxHeartbeats 1000000 in
theorem indexFunc_any (n : Nat) (u1 u2 : Value) (T : Spd → Bool) (B : Option Addr) (S : List Spd) (cap : Nat) (w : World) (hS : SpAt w B S) (hl : S.length ≤ 100000) (hn : ∀ args w, (callFunc n args).run Try.prog w = .ok (.enter n args) w)
    (hT : ∀ w', Below w.heap.size w w' → ∀ k, k < S.length → Calls Try.prog n #[.agg #[.int .i64 (tS S k), .int .i64 (cS S k)], u1, u2] w' (RetB (.bool (T (S.getD k (0, 0)))) w')) :
    Calls Try.prog 72 #[.slice B S.length cap, .func (.func n) #[] #[u1, u2]] w (fun e w' => ∃ i : Int, e = .returned (.int .i64 i) ∧ IxP T S i ∧ Below w.heap.size w w') := by
  have HS := Lib.hid hS
  have HT := Lib.hid hT
  clear hS hT
  go_enter Try.func72, Try.ntmps72
  go_wp2_with fail
  go_loopw [8] (fun i wr => ∃ k : Nat, k ≤ S.length ∧ i = .int .i64 k ∧ (∀ j, j < k → T (S.getD j (0, 0)) = false) ∧ Below w.heap.size w wr) (fun i _ => S.length - (intOf i).toNat)
  case atStart => exact ⟨0, Nat.zero_le _, rfl, fun j hj => absurd hj (by omega), Below.refl _ _⟩
  case round =>
    obtain ⟨k, hk, rfl, hpre, hbr⟩ := hrel
    have HP := Lib.hid hpre
    clear hpre
    by_cases hlt : k < S.length
    · obtain ⟨b, off, rfl, hbl, c1, c2⟩ := HS.out k hlt
      have d1 := (hbr.cell hbl).trans c1
      have d2 := (hbr.cell hbl).trans c2
      have hbs := hbr.size
      clear c1 c2
      go_wp2_with fail
      refine ret_below (HT.out _ hbr k hlt) fun w2 hb2 => ?_
      generalize hx : T (S.getD k (0, 0)) = tv at *
      have HX := Lib.hid hx
      clear hx
      have hbw : Below w.heap.size w w2 := hbr.trans (hb2.mono hbs)
      cases tv with
      | true =>
        go_wp2_with fail
        go_ret
        exact ⟨_, rfl, .inr ⟨k, rfl, hlt, HX.out, HP.out⟩, hbw⟩
      | false =>
        go_wp2_with fail
        go_roundw
        case rel =>
          refine ⟨k + 1, by omega, by go_num, fun j hj => ?_, hbw⟩
          by_cases hjk : j = k
          · subst hjk; exact HX.out
          · exact HP.out j (by omega)
        case measure => simp [intOf]; omega
    · go_wp2_with fail
      go_ret
      exact ⟨_, rfl, .inl ⟨rfl, fun j hj => HP.out j (by omega)⟩, hbr⟩

/-! ### What DeleteFunc keeps -/
theorem flat_set : ∀ (L : List Spd) (i : Nat) (t x : Int), i < L.length → ((flat L).set (i * 2) (.int .i64 t)).set (i * 2 + 1) (.int .i64 x) = flat (L.set i (t, x))
  | [], i, _, _, h => absurd h (by simp)
  | y :: L, 0, t, x, _ => rfl
  | y :: L, i + 1, t, x, h => by
    rw [show (i + 1) * 2 = i * 2 + 1 + 1 by omega]
    simp only [flat, List.set_cons_succ]
    rw [flat_set L i t x (by simpa using h)]
theorem SpOwn.set2 {w : World} {base g c : Nat} {L : List Spd} (h : SpOwn w base (.slice (some ⟨g, 0, none⟩) L.length c) L) (i : Nat) (hi : i < L.length) (t x : Int) :
    SpOwn ((w.setCell ⟨g, i * 2, none⟩ (.int .i64 t)).setCell ⟨g, i * 2 + 1, none⟩ (.int .i64 x)) base (.slice (some ⟨g, 0, none⟩) L.length c) (L.set i (t, x)) := by
  rcases h.2 with ⟨h0, _⟩ | ⟨g', cap, cur, hv, hg, hh, hnc, hcm, hcs, htk⟩
  · cases h0
  · injection hv with h1 h2 h3
    injection h1 with h1
    injection h1 with h1
    subst h1; subst h3
    refine ⟨flat_len _, .inr ⟨g, c, (cur.setIfInBounds (i * 2) (.int .i64 t)).setIfInBounds (i * 2 + 1) (.int .i64 x), by simp, hg, ?_, by simpa using hnc, hcm, by simpa using hcs, ?_⟩⟩
    · simp [World.setCell, Array.getElem?_modify, hh]
    · rw [← flat_set L i t x hi, ← htk]
      simp only [Array.toList_setIfInBounds, List.length_set]
      rw [List.take_set, List.take_set]
theorem SpOwn.slot {w : World} {base g c : Nat} {L : List Spd} (h : SpOwn w base (.slice (some ⟨g, 0, none⟩) L.length c) L) (i : Nat) (hi : i < L.length) :
    g < w.heap.size ∧ base ≤ g ∧ w.cell? ⟨g, i * 2, none⟩ = some (.int .i64 (tS L i)) ∧ w.cell? ⟨g, i * 2 + 1, none⟩ = some (.int .i64 (cS L i)) ∧ ∀ j, w.frozen? ⟨g, j, none⟩ = false := by
  obtain ⟨A, c', e, hA, -, hb⟩ := h.at_
  injection e with e1 e2 e3
  subst e1
  obtain ⟨b, off, e, hbl, q1, q2⟩ := hA i hi
  injection e with e
  injection e with e1 e2
  subst e1; subst e2
  rw [Nat.zero_add] at q1 q2
  refine ⟨hbl, (hb _ _ rfl).1, q1, q2, fun j => ?_⟩
  rcases h.2 with ⟨h0, _⟩ | ⟨g', cap, cur, hv, hg, hh, _⟩
  · cases h0
  · injection hv with h1
    injection h1 with h1
    injection h1 with h1
    subst h1
    simp [World.frozen?, hh]
def keepL (T : Spd → Bool) (S : List Spd) (j : Nat) : List Spd := (S.take j).filter fun y => !T y
theorem keepL_succ {T : Spd → Bool} {S : List Spd} {j : Nat} (hj : j < S.length) : keepL T S (j + 1) = keepL T S j ++ if T (S.getD j (0, 0)) then [] else [S.getD j (0, 0)] := by
  have e : S.take (j + 1) = S.take j ++ [S.getD j (0, 0)] := by
    rw [List.take_succ_eq_append_getElem hj]; simp [List.getD_eq_getElem?_getD, hj]
  unfold keepL
  rw [e, List.filter_append]
  congr 1
  generalize S.getD j (0, 0) = y
  cases h : T y <;> simp [h]
theorem keepL_del {T : Spd → Bool} {S : List Spd} {j : Nat} (hj : j < S.length) (h : T (S.getD j (0, 0)) = true) : keepL T S (j + 1) = keepL T S j := by
  rw [keepL_succ hj, h]; simp
theorem keepL_keep {T : Spd → Bool} {S : List Spd} {j : Nat} (hj : j < S.length) (h : T (S.getD j (0, 0)) = false) : keepL T S (j + 1) = keepL T S j ++ [S.getD j (0, 0)] := by
  rw [keepL_succ hj, h]; rfl
theorem keepL_all {T : Spd → Bool} {S : List Spd} : ∀ k, k ≤ S.length → (∀ j, j < k → T (S.getD j (0, 0)) = false) → keepL T S k = S.take k
  | 0, _, _ => by simp [keepL]
  | k + 1, hk, h => by
    rw [keepL_keep (by omega) (h k (by omega)), keepL_all k (by omega) (fun j hj => h j (by omega)), List.take_succ_eq_append_getElem (show k < S.length by omega)]
    simp [List.getD_eq_getElem?_getD, show k < S.length by omega]
theorem keepL_end (T : Spd → Bool) (S : List Spd) : keepL T S S.length = S.filter fun y => !T y := by unfold keepL; rw [List.take_length]
/-- The loop of DeleteFunc, under way: i entries kept of the first j. -/
def DelInv (T : Spd → Bool) (S : List Spd) (g c base : Nat) (w : World) (j i : Nat) (wr : World) : Prop :=
  ∃ L X, i = (keepL T S j).length ∧ L = keepL T S j ++ X ++ S.drop j ∧ 0 < X.length ∧ i + X.length = j ∧ L.length = S.length ∧ SpOwn wr base (.slice (some ⟨g, 0, none⟩) L.length c) L ∧ w.grownBy wr (some g)
theorem getD_mid {A X : List Spd} {S : List Spd} {j : Nat} (h : A.length + X.length = j) (_ : j < S.length) : (A ++ X ++ S.drop j).getD j (0, 0) = S.getD j (0, 0) := by
  simp only [List.getD_eq_getElem?_getD]
  rw [List.getElem?_append_right (by simp; omega)]
  simp [show j - (A.length + X.length) = 0 by omega]
theorem DelInv.facts {T : Spd → Bool} {S : List Spd} {g c base : Nat} {w wr : World} {j i : Nat} (h : DelInv T S g c base w j i wr) (hj : j < S.length) :
    g < wr.heap.size ∧ base ≤ g ∧ i < j ∧ wr.cell? ⟨g, j * 2, none⟩ = some (.int .i64 (tS S j)) ∧ wr.cell? ⟨g, j * 2 + 1, none⟩ = some (.int .i64 (cS S j)) ∧ (∃ a, wr.cell? ⟨g, i * 2, none⟩ = some a) ∧ (∃ a, wr.cell? ⟨g, i * 2 + 1, none⟩ = some a) ∧ (∀ k, wr.frozen? ⟨g, k, none⟩ = false) ∧ w.grownBy wr (some g) := by
  obtain ⟨L, X, h1, h2, h3, h4, h5, h6, h7⟩ := h
  obtain ⟨a1, a2, a3, a4, a5⟩ := h6.slot j (by omega)
  obtain ⟨-, -, b3, b4, -⟩ := h6.slot i (by omega)
  have e : L.getD j (0, 0) = S.getD j (0, 0) := by rw [h2]; exact getD_mid (by omega) hj
  rw [show tS L j = tS S j by unfold tS; rw [e]] at a3
  rw [show cS L j = cS S j by unfold cS; rw [e]] at a4
  exact ⟨a1, a2, by omega, a3, a4, ⟨_, b3⟩, ⟨_, b4⟩, a5, h7⟩
theorem drop_getD {S : List Spd} {j : Nat} (hj : j < S.length) : S.drop j = S.getD j (0, 0) :: S.drop (j + 1) := by
  rw [List.drop_eq_getElem_cons hj]; simp [List.getD_eq_getElem?_getD, hj]
theorem DelInv.drop {T : Spd → Bool} {S : List Spd} {g c base : Nat} {w wr w' : World} {j i : Nat} (h : DelInv T S g c base w j i wr) (hj : j < S.length) (hT : T (S.getD j (0, 0)) = true) (hb : Below wr.heap.size wr w') : DelInv T S g c base w (j + 1) i w' := by
  obtain ⟨L, X, h1, h2, h3, h4, h5, h6, h7⟩ := h
  refine ⟨L, X ++ [S.getD j (0, 0)], by rw [keepL_del hj hT]; exact h1, ?_, by simp, by simp; omega, h5, h6.below hb, grown_trans h7 (grown_of_below hb)⟩
  rw [h2, keepL_del hj hT, drop_getD hj]; simp
theorem DelInv.keep {T : Spd → Bool} {S : List Spd} {g c base : Nat} {w wr w' : World} {j i : Nat} (h : DelInv T S g c base w j i wr) (hj : j < S.length) (hT : T (S.getD j (0, 0)) = false) (hb : Below wr.heap.size wr w') :
    DelInv T S g c base w (j + 1) (i + 1) ((w'.setCell ⟨g, i * 2, none⟩ (.int .i64 (tS S j))).setCell ⟨g, i * 2 + 1, none⟩ (.int .i64 (cS S j))) := by
  obtain ⟨L, X, h1, h2, h3, h4, h5, h6, h7⟩ := h
  obtain ⟨x, X', rfl⟩ : ∃ x X', X = x :: X' := by
    cases X with
    | nil => simp at h3
    | cons x X' => exact ⟨x, X', rfl⟩
  have hi : i < L.length := by simp at h4; omega
  have e : L.set i (S.getD j (0, 0)) = keepL T S (j + 1) ++ (X' ++ [S.getD j (0, 0)]) ++ S.drop (j + 1) := by
    rw [h2, h1, keepL_keep hj hT, drop_getD hj, List.append_assoc, List.set_append_right _ _ (Nat.le_refl _)]
    simp
  have hs := (h6.below hb).set2 i hi (tS S j) (cS S j)
  rw [show ((tS S j, cS S j) : Spd) = S.getD j (0, 0) from rfl] at hs
  have hgr : w.grownBy ((w'.setCell ⟨g, i * 2, none⟩ (.int .i64 (tS S j))).setCell ⟨g, i * 2 + 1, none⟩ (.int .i64 (cS S j))) (some g) := by
    refine grown_trans (grown_trans h7 (grown_of_below hb)) ⟨rfl, rfl, rfl, by simp [World.setCell], fun k hk hne => ?_⟩
    have hkg : k ≠ g := fun e => hne (by rw [e])
    exact (Below.heap_setCell _ _ _ k hkg).trans (Below.heap_setCell _ _ _ k hkg)
  refine ⟨L.set i (S.getD j (0, 0)), X' ++ [S.getD j (0, 0)], by rw [keepL_keep hj hT]; simp [h1], e, by simp, by simp at h4 ⊢; omega, by simpa using h5, ?_, hgr⟩
  rw [List.length_set]; exact hs
theorem DelInv.start {T : Spd → Bool} {S : List Spd} {g c base : Nat} {w wr : World} {k : Nat} (hk : k < S.length) (hT : T (S.getD k (0, 0)) = true) (hall : ∀ j, j < k → T (S.getD j (0, 0)) = false) (hown : SpOwn wr base (.slice (some ⟨g, 0, none⟩) S.length c) S) (hg : w.grownBy wr (some g)) :
    DelInv T S g c base w (k + 1) k wr := by
  refine ⟨S, [S.getD k (0, 0)], ?_, ?_, by simp, by simp, rfl, hown, hg⟩
  · rw [keepL_del hk hT, keepL_all k (by omega) hall]; simp; omega
  · rw [keepL_del hk hT, keepL_all k (by omega) hall, List.append_assoc, List.singleton_append, ← drop_getD hk, List.take_append_drop]
end Go.Proofs.Ytmnkgfimdlhhiaa
namespace Go.Proofs.Ytmnkgfimdlhhiaa
open Go.RowKit

theorem zero_spends (n : Nat) : (Builtin.zeroCells #[Value.int .i64 0, Value.int .i64 0] n).toList = List.replicate (n * 2) (Value.int .i64 0) := by
  simp only [Builtin.zeroCells]
  apply List.ext_getElem
  · simp
  · intro i h1 h2
    simp
    rcases Nat.mod_two_eq_zero_or_one i with h | h <;> simp [h]
theorem zeroS (w : World) : (zeroValue 33).run Try.prog w = .ok (.agg #[.int .i64 0, .int .i64 0]) w := by kernel_rfl
theorem SpOwn.cap {w : World} {base g n c : Nat} {L : List Spd} (h : SpOwn w base (.slice (some ⟨g, 0, none⟩) n c) L) : L.length ≤ c := by
  rcases h.2 with ⟨h0, _⟩ | ⟨g', cap, cur, hv, hg, hh, hnc, _⟩
  · cases h0
  · injection hv with h1 h2 h3
    subst h3; exact hnc
theorem clear_run {w : World} {base g c : Nat} {L : List Spd} (h : SpOwn w base (.slice (some ⟨g, 0, none⟩) L.length c) L) (i : Nat) (hi : i < L.length) (c' : Nat) :
    ∃ w', (∀ ty, (Builtin.clear_ #[22] ty #[.slice (some ⟨g, i * 2, none⟩) (L.length - i) c']).run Try.prog w = .ok (.tuple #[]) w') ∧ SpOwn w' base (.slice (some ⟨g, 0, none⟩) i c) (L.take i) ∧ w.grownBy w' (some g) := by
  rcases h.2 with ⟨h0, _⟩ | ⟨g', cap, cur, hv, hg, hh, hnc, hcm, hcs, htk⟩
  · cases h0
  · injection hv with h1 h2 h3
    injection h1 with h1
    injection h1 with h1
    subst h1; subst h3
    have hst := run_storeCells_at (P := Try.prog) g (i * 2) 33 (List.replicate ((L.length - i) * 2) (Value.int .i64 0)) 0 cur w hh (by simp; omega) (by intro v hv; rw [List.eq_of_mem_replicate hv]; rfl)
    obtain ⟨cs, hcs2⟩ : ∃ cs : Array Value, cs = (cur.toList.take (i * 2 + 0) ++ List.replicate ((L.length - i) * 2) (Value.int .i64 0) ++ cur.toList.drop (i * 2 + 0 + (List.replicate ((L.length - i) * 2) (Value.int .i64 0)).length)).toArray := ⟨_, rfl⟩
    rw [← hcs2] at hst
    refine ⟨w.setRow g cs, fun ty => ?_, ?_, ⟨rfl, rfl, rfl, by simp [World.setRow], fun k _ hne => setRow_other w g k cs (fun e => hne (by rw [e]))⟩⟩
    · clear hcs2
      obtain ⟨m, hm⟩ : ∃ m, L.length - i = m + 1 := ⟨L.length - i - 1, by omega⟩
      rw [hm] at hst ⊢
      have hz := zero_spends (m + 1)
      simp only [Builtin.clear_]
      simp [run_underlying Try.underlying22, Value.cells, hz, hst, Result.andThen]
    · have hl : (L.take i).length = i := by simp; omega
      refine ⟨by rw [flat_len, hl], .inr ⟨g, c, cs, by rw [hl], hg, setRow_heap w g cur _ _ _ hh, by omega, hcm, ?_, ?_⟩⟩
      · rw [hcs2]; simp; omega
      · have e : flat L = flat (L.take i) ++ flat (L.drop i) := by rw [← flat_append, List.take_append_drop]
        have e2 : List.take (i * 2) cur.toList = flat (L.take i) := by
          have h3 : List.take (i * 2) (List.take (L.length * 2) cur.toList) = List.take (i * 2) cur.toList := by rw [List.take_take]; congr 1; omega
          rw [← h3, htk, e, List.take_append_of_le_length (by rw [flat_len, hl]; exact Nat.le_refl _), List.take_of_length_le (by rw [flat_len, hl]; exact Nat.le_refl _)]
        rw [hcs2, Nat.add_zero, List.append_assoc, List.take_append_of_le_length (by simp; omega), List.take_take, hl, Nat.min_self, e2]

/-- The slice of what is kept; the block g alone has turned. -/
def DelP (w : World) (base g : Nat) (S : List Spd) (e : Ending) (w' : World) : Prop := ∃ v, e = .returned v ∧ SpOwn w' base v S ∧ w.grownBy w' (some g)
theorem filter_none {T : Spd → Bool} {S : List Spd} (h : ∀ j, j < S.length → T (S.getD j (0, 0)) = false) : S = S.filter fun y => !T y := by
  rw [← keepL_end, keepL_all S.length (Nat.le_refl _) h, List.take_length]
set_option maxRecDepth 100000 in
set_option maxHeartbeats 1000000 in
theorem deleteFunc_any (n : Nat) (u1 u2 : Value) (T : Spd → Bool) (base g c : Nat) (S : List Spd) (w : World) (hown : SpOwn w base (.slice (some ⟨g, 0, none⟩) S.length c) S) (hl : S.length ≤ 100000) (hn : ∀ args w, (callFunc n args).run Try.prog w = .ok (.enter n args) w)
    (hT : ∀ w', w.grownBy w' (some g) → ∀ k, k < S.length → Calls Try.prog n #[.agg #[.int .i64 (tS S k), .int .i64 (cS S k)], u1, u2] w' (RetB (.bool (T (S.getD k (0, 0)))) w')) :
    Calls Try.prog 52 #[.slice (some ⟨g, 0, none⟩) S.length c, .func (.func n) #[] #[u1, u2]] w (DelP w base g (S.filter fun y => !T y)) := by
  have HOWN := Lib.hid hown
  have HT := Lib.hid hT
  clear hown hT
  go_enter Try.func52, Try.ntmps52
  go_wp2_with fail
  obtain ⟨C, c', ec, hC, -, -⟩ := HOWN.out.at_
  injection ec with ec1 ec2 ec3
  subst ec1; subst ec3
  refine (indexFunc_any n u1 u2 T (some ⟨g, 0, none⟩) S c _ hC hl hn (fun w' hb k hk => HT.out w' (grown_of_below hb) k hk)).mono ?_
  rintro e w1 ⟨i, rfl, hi, hb⟩
  clear hC
  rcases hi with ⟨rfl, hall⟩ | ⟨k, rfl, hk, hTk, hall⟩
  · have HV := Lib.hid (filter_none hall)
    clear hall
    go_wp2_with fail
    go_ret
    exact ⟨_, rfl, by rw [← HV.out]; exact HOWN.out.below hb, grown_of_below hb⟩
  · have HD := Lib.hid (DelInv.start hk hTk hall (HOWN.out.below hb) (grown_of_below (r := some g) hb))
    have e1 : ((k : Int) == -1) = false := by simp
    clear hall hTk
    go_wp2_with fail
    go_loopw [6, 5] (fun j i wr => ∃ j' i' : Nat, j' ≤ S.length ∧ j = .int .i64 j' ∧ i = .int .i64 i' ∧ DelInv T S g c base w j' i' wr) (fun j _ _ => S.length - (intOf j).toNat)
    case atStart => exact ⟨k + 1, k, by omega, by go_num, rfl, HD.out⟩
    case round =>
      obtain ⟨j, i, hj, rfl, rfl, hinv⟩ := hrel
      have HI := Lib.hid hinv
      clear hinv
      by_cases hlt : j < S.length
      · obtain ⟨a1, a2, a3, a4, a5, ⟨q6, a6⟩, ⟨q7, a7⟩, a8, a9⟩ := HI.out.facts hlt
        have g0 := a8 (i * 2)
        have g1 := a8 (i * 2 + 1)
        clear a8
        go_wp2_with fail
        have hgr := Lib.hid (grown_trans a9 (grown_of_below (r := some g) (below_alloc wr (.cells #[.int .i64 (tS S j), .int .i64 (cS S j)] 33))))
        refine ret_below (HT.out _ hgr.out j hlt) fun w2 hb2 => ?_
        generalize hx : T (S.getD j (0, 0)) = tv at *
        have HX := Lib.hid hx
        clear hx
        have hbw : Below wr.heap.size wr w2 := (below_alloc _ _).trans (hb2.mono (by simp))
        cases tv with
        | true =>
          have HN := Lib.hid (HI.out.drop hlt HX.out hbw)
          clear HI hgr a9
          go_wp2_with fail
          go_roundw
          case rel => exact ⟨j + 1, i, by omega, by go_num, rfl, HN.out⟩
          case measure => simp [intOf]; omega
        | false =>
          have HN := Lib.hid (HI.out.keep hlt HX.out hbw)
          have m6 := (hbw.cell (p := ⟨g, i * 2, none⟩) a1).trans a6
          have m7 := (hbw.cell (p := ⟨g, i * 2 + 1, none⟩) a1).trans a7
          have m0 := (hbw.frozen (p := ⟨g, i * 2, none⟩) a1).trans g0
          have m1 := (hbw.frozen (p := ⟨g, i * 2 + 1, none⟩) a1).trans g1
          obtain ⟨p0, p1⟩ := pair_cells wr (tS S j) (cS S j)
          have r0 := (hb2.cell (p := ⟨wr.heap.size, 0, none⟩) (by simp)).trans p0
          have r1 := (hb2.cell (p := ⟨wr.heap.size, 1, none⟩) (by simp)).trans p1
          clear HI hgr a9 a6 a7 g0 g1 p0 p1
          go_wp2_with fail
          go_roundw
          case rel => exact ⟨j + 1, i + 1, by omega, by go_num, by go_num, HN.out⟩
          case measure => simp [intOf]; omega
      · have hje : j = S.length := by omega
        subst hje
        obtain ⟨L, X, h1, h2, h3, h4, h5, h6, h7⟩ := HI.out
        have hiL : i < L.length := by omega
        obtain ⟨w3, hrun, hown3, hg3⟩ := clear_run h6 i hiL (c - i)
        have hres : L.take i = S.filter fun y => !T y := by
          rw [h2, h1, List.append_assoc, List.take_left', keepL_end]; rfl
        rw [h5] at hrun
        have HR := Lib.hid (show DelP w base g (S.filter fun y => !T y) (.returned (.slice (some ⟨g, 0, none⟩) i c)) w3 from ⟨_, rfl, by rw [← hres]; exact hown3, grown_trans h7 hg3⟩)
        have hi2 : i ≤ S.length := by omega
        have hi3 := HOWN.out.cap
        have hi4 : i ≤ c := by omega
        clear h1 h2 h3 h4 h6 h7 hown3 hg3 hres HI
        go_wp2_with fail
        go_ret
        exact HR.out
end Go.Proofs.Ytmnkgfimdlhhiaa
namespace Go.Proofs.Ytmnkgfimdlhhiaa
open Go.RowKit

def goneT (P t : Int) (y : Spd) : Bool := decide (y.1 / P < t / P)
def keepC (P t : Int) (y : Spd) : Bool := decide (t / P * P ≤ y.1)
theorem gone_keep {P t : Int} (hP : 1 ≤ P) (S : List Spd) : (S.filter fun y => !goneT P t y) = S.filter (keepC P t) := by
  congr 1
  funext y
  unfold goneT keepC
  have := Int.ediv_lt_iff_lt_mul (a := y.1) (b := t / P) (c := P) (by omega)
  by_cases h : y.1 < t / P * P
  · rw [decide_eq_true (this.2 h), decide_eq_false (by omega)]; rfl
  · rw [decide_eq_false (fun h2 => h (this.1 h2)), decide_eq_true (by omega)]; rfl
noncomputable def clE (P A : Int) (S : List Spd) (t : Int) : Int := @ite _ (¬ BudOK P A S) (Classical.propDecidable _) 56 (if ¬ (0 ≤ t ∧ t ≤ 1099511627776) then 16 else 0)
noncomputable def clS (P A : Int) (S : List Spd) (t : Int) : List Spd := if clE P A S t = 0 then S.filter (keepC P t) else S
theorem clE_bad {P A : Int} {S : List Spd} {t : Int} (h : ¬ BudOK P A S) : 56 = clE P A S t := by
  unfold clE; rw [@if_pos _ (Classical.propDecidable _) h]
theorem clE_time {P A : Int} {S : List Spd} {t : Int} (h : BudOK P A S) (h2 : ¬ (0 ≤ t ∧ t ≤ 1099511627776)) : 16 = clE P A S t := by
  unfold clE; rw [@if_neg _ (Classical.propDecidable _) (fun hh => hh h), if_pos h2]
theorem clE_ok {P A : Int} {S : List Spd} {t : Int} (h : BudOK P A S) (h2 : 0 ≤ t ∧ t ≤ 1099511627776) : 0 = clE P A S t := by
  unfold clE; rw [@if_neg _ (Classical.propDecidable _) (fun hh => hh h), if_neg (fun hh => hh h2)]
theorem clS_err {P A : Int} {S : List Spd} {t E : Int} (h : E = clE P A S t) (hE : E ≠ 0) : E = clE P A S t ∧ S = clS P A S t := ⟨h, by unfold clS; rw [if_neg (by rw [← h]; exact hE)]⟩
theorem clS_ok {P A : Int} {S : List Spd} {t : Int} (h : 0 = clE P A S t) : 0 = clE P A S t ∧ S.filter (keepC P t) = clS P A S t := ⟨h, by unfold clS; rw [if_pos h.symm]⟩

theorem enter_clean (args : Array Value) (w : World) : (callFunc 53 args).run Try.prog w = .ok (.enter 53 args) w :=
  MuLone.run_callFunc_enter Try.func53 (by kernel_rfl) rfl args w
set_option maxHeartbeats 400000 in
theorem cleanT_any (x y : Nat) (P A : Int) (v : Value) (t c time : Int) (w : World) (hP : 1 ≤ P ∧ P ≤ 1099511627776) (hx : BudCell w x P A v) (hy : IntCell w y time) (h1 : 0 ≤ t ∧ t ≤ 1099511627776) (h2 : 0 ≤ time ∧ time ≤ 2199023255552) :
    Calls Try.prog 53 #[.agg #[.int .i64 t, .int .i64 c], .pointer (some ⟨x, 0, none⟩), .pointer (some ⟨y, 0, none⟩)] w (RetB (.bool (decide (t / P < time / P))) w) := by
  obtain ⟨p1, p2⟩ := hP
  obtain ⟨t1, t2⟩ := h1
  obtain ⟨m1, m2⟩ := h2
  have q1 : t.tdiv P = t / P := Int.tdiv_eq_ediv_of_nonneg t1
  have q2 : time.tdiv P = time / P := Int.tdiv_eq_ediv_of_nonneg m1
  have z1 : ¬ P = 0 := by omega
  have z2 : (P == 0) = false := by simp; omega
  have b1 := Int.ediv_nonneg t1 (show 0 ≤ P by omega)
  have b2 := Int.ediv_le_self P t1
  have b3 := Int.ediv_nonneg m1 (show 0 ≤ P by omega)
  have b4 := Int.ediv_le_self P m1
  have v1 : IntKind.i64.wrap (t / P) = t / P := IntWalk.i64_in _ (by omega)
  have v2 : IntKind.i64.wrap (time / P) = time / P := IntWalk.i64_in _ (by omega)
  have HX := Lib.hid hx
  have HY := Lib.hid hy
  clear hx hy
  go_enter Try.func53, Try.ntmps53
  go_wp2_with fail
  refine gen_world fun w1 hw1 => ?_
  have hb : Below w.heap.size w w1 := by rw [hw1]; exact below_alloc _ _
  obtain ⟨e0, e1⟩ : w1.cell? ⟨w.heap.size, 0, none⟩ = some (.int .i64 t) ∧ w1.cell? ⟨w.heap.size, 1, none⟩ = some (.int .i64 c) := by rw [hw1]; exact pair_cells w t c
  have ex := (HX.out.below hb).c0
  have ey := (HY.out.below hb).c0
  clear hw1
  go_quiet (fail)
  go_wp2
  go_ret
  exact RetB.bool rfl (below_drewN hb _)

set_option maxRecDepth 100000 in
set_option maxHeartbeats 1000000 in
theorem deleteFunc_nil (n : Nat) (u1 u2 : Value) (base g : Nat) (w : World) (hn : ∀ args w, (callFunc n args).run Try.prog w = .ok (.enter n args) w) :
    Calls Try.prog 52 #[.slice none 0 0, .func (.func n) #[] #[u1, u2]] w (DelP w base g []) := by
  go_enter Try.func52, Try.ntmps52
  go_wp2_with fail
  refine (indexFunc_any n u1 u2 (fun _ => true) none [] 0 _ (SpAt.nil _ _) (by simp) hn (fun w' hb k hk => absurd hk (by simp))).mono ?_
  rintro e w1 ⟨i, rfl, hi, hb⟩
  rcases hi with ⟨rfl, hall⟩ | ⟨k, rfl, hk, -, -⟩
  · clear hall
    go_wp2_with fail
    go_ret
    exact ⟨_, rfl, SpOwn.nil _ _, grown_of_below hb⟩
  · exact absurd hk (by simp)

/-- The budget in its box, the time in its cell, the result's cell, the call's own spends. -/
structure Cl (w wr : World) (P A t : Int) (v : Value) (S : List Spd) : Prop where
  box : BudCell wr w.heap.size P A v
  tm : IntCell wr (w.heap.size + 1) t
  res : BudCell wr (w.heap.size + 2) 0 0 (.slice none 0 0)
  own : SpOwn wr (w.heap.size + 3) v S
  below : Below w.heap.size w wr
  size : w.heap.size + 3 ≤ wr.heap.size
theorem Cl.later {w wr w' : World} {P A t : Int} {v : Value} {S : List Spd} (h : Cl w wr P A t v S) (hb : Below wr.heap.size wr w') : Cl w w' P A t v S :=
  ⟨h.box.below hb, h.tm.below hb, h.res.below hb, h.own.below hb, h.below.trans (hb.mono (Nat.le_trans (by omega) h.size)), Nat.le_trans h.size hb.size⟩
theorem Cl.done {w wr : World} {P A t : Int} {v : Value} {S : List Spd} (h : Cl w wr P A t v S) :
    BudCell (((wr.setCell ⟨w.heap.size + 2, 0, none⟩ (.int .i64 P)).setCell ⟨w.heap.size + 2, 1, none⟩ (.int .i64 A)).setCell ⟨w.heap.size + 2, 2, none⟩ v) (w.heap.size + 2) P A v ∧
    SpOwn (((wr.setCell ⟨w.heap.size + 2, 0, none⟩ (.int .i64 P)).setCell ⟨w.heap.size + 2, 1, none⟩ (.int .i64 A)).setCell ⟨w.heap.size + 2, 2, none⟩ v) w.heap.size v S ∧
    Below w.heap.size w (((wr.setCell ⟨w.heap.size + 2, 0, none⟩ (.int .i64 P)).setCell ⟨w.heap.size + 2, 1, none⟩ (.int .i64 A)).setCell ⟨w.heap.size + 2, 2, none⟩ v) :=
  ⟨((h.res.set0 P).set1 A).set2 v, (((h.own.set_ _ _ (by simp)).set_ _ _ (by simp)).set_ _ _ (by simp)).mono (by omega),
    below_set (below_set (below_set h.below _ _ (by simp)) _ _ (by simp)) _ _ (by simp)⟩
theorem size_alloc3 (w : World) (a b c : Obj) : (((w.alloc a).alloc b).alloc c).heap.size = w.heap.size + 3 := by simp
theorem IntCell.other {w : World} {x : Nat} {n : Int} (h : IntCell w x n) (p : Addr) (u : Value) (hp : x ≠ p.block) : IntCell (w.setCell p u) x n :=
  (Below.heap_setCell w p u x hp).trans h
theorem Cl.start {w w1 : World} {P A t : Int} {v v' : Value} {S : List Spd} (hb : Below (((w.alloc (.cells #[.int .i64 P, .int .i64 A, v] 24)).alloc (.cells #[.int .i64 t] 3)).alloc (.cells #[.int .i64 0, .int .i64 0, .slice none 0 0] 24)).heap.size (((w.alloc (.cells #[.int .i64 P, .int .i64 A, v] 24)).alloc (.cells #[.int .i64 t] 3)).alloc (.cells #[.int .i64 0, .int .i64 0, .slice none 0 0] 24)) w1)
    (hown : SpOwn w1 (((w.alloc (.cells #[.int .i64 P, .int .i64 A, v] 24)).alloc (.cells #[.int .i64 t] 3)).alloc (.cells #[.int .i64 0, .int .i64 0, .slice none 0 0] 24)).heap.size v' S) :
    BudCell w1 w.heap.size P A v ∧ Cl w (w1.setCell ⟨w.heap.size, 2, none⟩ v') P A t v' S := by
  have hs := hb.size
  simp only [size_alloc3] at hs hown
  have h1 : BudCell w1 w.heap.size P A v := (((BudCell.new _ _ _ rfl).alloc _).alloc _).below hb
  have h4 : IntCell w1 (w.heap.size + 1) t := ((IntCell.new _ (by simp)).alloc _).below hb
  have h2 : BudCell w1 (w.heap.size + 2) 0 0 (.slice none 0 0) := (BudCell.new _ _ _ (by simp)).below hb
  have h3 : Below w.heap.size w w1 := below_of_alloc (below_of_alloc (below_of_alloc (hb.mono (by simp; omega)) (by simp; omega)) (by simp)) (Nat.le_refl _)
  exact ⟨h1, h1.set2 _, h4.other _ _ (by simp), h2.other _ _ (by simp), hown.set_ _ _ (by simp), below_set h3 _ _ (by simp), by simpa [World.setCell] using hs⟩
theorem Cl.deleted {w wr w' : World} {P A t : Int} {v v' : Value} {S S' : List Spd} {g : Nat} (h : Cl w wr P A t v S) (hgb : w.heap.size + 3 ≤ g) (hg : wr.grownBy w' (some g)) (hown : SpOwn w' (w.heap.size + 3) v' S') :
    (BudCell w' w.heap.size P A v ∧ IntCell w' (w.heap.size + 1) t ∧ BudCell w' (w.heap.size + 2) 0 0 (.slice none 0 0)) ∧ Cl w (w'.setCell ⟨w.heap.size, 2, none⟩ v') P A t v' S' := by
  have hsz := h.size
  have hk : ∀ k, k < w.heap.size + 3 → w'.heap[k]? = wr.heap[k]? := fun k hk => hg.block k (by omega) (fun e => by injection e with e; omega)
  have h1 : BudCell w' w.heap.size P A v := (hk _ (by omega)).trans h.box
  have h4 : IntCell w' (w.heap.size + 1) t := (hk _ (by omega)).trans h.tm
  have h2 : BudCell w' (w.heap.size + 2) 0 0 (.slice none 0 0) := (hk _ (by omega)).trans h.res
  have h3 : Below w.heap.size w w' := h.below.grown hg (by omega) (fun k e => by injection e with e; omega)
  have hs := hg.size
  exact ⟨⟨h1, h4, h2⟩, h1.set2 _, h4.other _ _ (by simp), h2.other _ _ (by simp), hown.set_ _ _ (by simp), below_set h3 _ _ (by simp), by simp [World.setCell]; omega⟩

set_option maxRecDepth 100000 in
set_option maxHeartbeats 4000000 in
theorem clean_any (P A : Int) (B : Option Addr) (S : List Spd) (c : Nat) (t : Int) (w : World) (hS : SpAt w B S) (hA : ∀ a, B = some a → a.spot = none ∨ S.length = 0) (hN : B = none → S.length = 0 ∧ c = 0) (hl : S.length ≤ 100000) :
    Calls Try.prog 22 #[.agg #[.int .i64 P, .int .i64 A, .slice B S.length c], .int .i64 t] w (SpendP w P A (clS P A S t) (clE P A S t)) := by
  have HS := Lib.hid hS
  clear hS
  have hmf' := hmf
  go_enter Try.func22, Try.ntmps22
  go_wp2_with fail
  refine (clone_any B S c _ (((HS.out.alloc _).alloc _).alloc _) hA hN hl).mono ?_
  rintro e w1 ⟨v, rfl, hown, hb⟩
  obtain ⟨C, c', rfl, -, -, -⟩ := hown.at_
  obtain ⟨hX, hSt⟩ := Cl.start hb hown
  have x2 := hX.c2
  have f2 := hX.frozen 2
  have x0 := hX.c0
  have x1 := hX.c1
  clear hX hb hown hA hN HS
  go_wp2_with fail
  clear x0 x1 x2 f2
  obtain ⟨C', c'', ec, hC, hCN, hCb⟩ := hSt.own.at_
  injection ec with ec1 ec2 ec3
  subst ec1; subst ec3
  refine ret_below (check_any P A C S c' _ hC hl) fun w3 hb3 => ?_
  have hSt3 := hSt.later hb3
  clear hSt hb3 hC
  have x0 := hSt3.box.c0
  have x1 := hSt3.box.c1
  have x2 := hSt3.box.c2
  have t0 := hSt3.tm.c0
  have y0 := hSt3.res.c0
  have y1 := hSt3.res.c1
  have y2 := hSt3.res.c2
  have f0 := hSt3.res.frozen 0
  have f1 := hSt3.res.frozen 1
  have f2 := hSt3.res.frozen 2
  have hs3 := hSt3.size
  have HST := Lib.hid hSt3
  have HCN := Lib.hid hCN
  have HCB := Lib.hid hCb
  clear hSt3 hCN hCb
  by_cases hok : BudOK P A S
  case neg =>
    have HV := Lib.hid (clS_err (clE_bad (t := t) hok) (by omega))
    rw [← budE_bad hok]
    clear hok
    go_wp2_with fail
    obtain ⟨d1, d2⟩ := HST.out.done
    exact bodyPost_ret (results_bud2 rfl _ _ (w.heap.size + 2) rfl d1) rfl (SpendP.mk HV.out d2)
  case pos =>
  have HOK := Lib.hid hok
  rw [budE_ok hok]
  clear hok
  by_cases g0 : 0 ≤ t ∧ t ≤ 1099511627776
  case neg =>
    have HV := Lib.hid (clS_err (clE_time HOK.out g0) (by omega))
    have HT := Lib.hid g0
    clear g0
    go_wp2_with fail
    refine ret_pure (in_no t 0 1099511627776 HT.out _) ?_
    go_wp2_with fail
    obtain ⟨d1, d2⟩ := HST.out.done
    exact bodyPost_ret (results_bud2 rfl _ _ (w.heap.size + 2) rfl d1) rfl (SpendP.mk HV.out d2)
  case pos =>
  have HT := Lib.hid g0
  clear g0
  have HV := Lib.hid (clS_ok (clE_ok HOK.out HT.out))
  have HP := Lib.hid (show 1 ≤ P ∧ P ≤ 1099511627776 from ⟨HOK.out.1.1, HOK.out.1.2.1⟩)
  go_wp2_with fail
  refine ret_pure (in_yes t 0 1099511627776 HT.out _) ?_
  go_wp2_with fail
  obtain ⟨g, hgb, hgo⟩ : ∃ g, w.heap.size + 3 ≤ g ∧ Calls Try.prog 52 #[.slice C S.length c', .func (.func 53) #[] #[.pointer (some ⟨w.heap.size, 0, none⟩), .pointer (some ⟨w.heap.size + 1, 0, none⟩)]] w3 (DelP w3 (w.heap.size + 3) g (S.filter (keepC P t))) := by
    rcases C with _ | ⟨g, off, spot⟩
    · obtain rfl := HCN.out rfl
      have hS0 : S = [] := by
        rcases HST.out.own.2 with ⟨_, h0⟩ | ⟨g', cap, cur, hv, _⟩
        · exact List.eq_nil_of_length_eq_zero h0
        · cases hv
      subst hS0
      exact ⟨w.heap.size + 3, Nat.le_refl _, deleteFunc_nil _ _ _ _ _ _ enter_clean⟩
    · have hsp : off = 0 ∧ spot = none := by
        rcases HST.out.own.2 with ⟨h0, _⟩ | ⟨g', cap, cur, hv, _⟩
        · cases h0
        · injection hv with h1
          injection h1 with h1
          injection h1 with h1 h2 h3
          exact ⟨h2, h3⟩
      obtain ⟨rfl, rfl⟩ := hsp
      have hg3 := (HCB.out g 0 rfl).1
      refine ⟨g, hg3, ?_⟩
      rw [← gone_keep HP.out.1]
      refine deleteFunc_any 53 _ _ (goneT P t) (w.heap.size + 3) g c' S w3 HST.out.own hl enter_clean (fun w' hgr k hk => ?_)
      have hk' : ∀ k, k < w.heap.size + 3 → w'.heap[k]? = w3.heap[k]? := fun k hk => hgr.block k (by omega) (fun e => by injection e with e; omega)
      exact cleanT_any w.heap.size (w.heap.size + 1) P A (.slice (some ⟨g, 0, none⟩) S.length c') (tS S k) (cS S k) t w' HP.out ((hk' _ (by omega)).trans HST.out.box) ((hk' _ (by omega)).trans HST.out.tm) (RowOK.times HOK.out.2.1 k hk) ⟨HT.out.1, by have := HT.out.2; omega⟩
  refine hgo.mono ?_
  rintro e w6 ⟨v6, rfl, hown6, hg6⟩
  obtain ⟨⟨hX6, -, hR6⟩, hSt6⟩ := HST.out.deleted hgb hg6 hown6
  obtain ⟨C6, c6, e6, -, -, -⟩ := hown6.at_
  obtain ⟨m, hm⟩ : ∃ m, m = (S.filter (keepC P t)).length := ⟨_, rfl⟩
  rw [← hm] at e6
  subst e6
  clear x0 x1 x2 t0 y0 y1 y2 f0 f1 f2 hs3 HST hgo hg6 hown6 hm
  have z0 := hX6.c0
  have z1 := hX6.c1
  have z2 := hX6.c2
  have z3 := hX6.frozen 2
  have y0 := hR6.c0
  have y1 := hR6.c1
  have y2 := hR6.c2
  have f0 := hR6.frozen 0
  have f1 := hR6.frozen 1
  have f2 := hR6.frozen 2
  have HST6 := Lib.hid hSt6
  clear hX6 hR6 hSt6
  go_wp2_with fail
  obtain ⟨d1, d2⟩ := HST6.out.done
  exact bodyPost_ret (results_bud2 rfl _ _ (w.heap.size + 2) rfl d1) rfl (SpendP.mk HV.out d2)
end Go.Proofs.Ytmnkgfimdlhhiaa
namespace Go.Proofs.Ytmnkgfimdlhhiaa
open Go.RowKit

def keepN (P t : Int) (S : List Spd) (k : Nat) : List Spd := (S.take k).filter (keepC P t)
theorem keepN_yes {P t : Int} {S : List Spd} {k : Nat} (hk : k < S.length) (h : t / P * P ≤ tS S k) : keepN P t S (k + 1) = keepN P t S k ++ [(tS S k, cS S k)] := by
  have e : S.take (k + 1) = S.take k ++ [S.getD k (0, 0)] := by
    rw [List.take_succ_eq_append_getElem hk]; simp [List.getD_eq_getElem?_getD, hk]
  have hy : keepC P t (S.getD k (0, 0)) = true := decide_eq_true h
  unfold keepN
  rw [e, List.filter_append, List.filter_cons_of_pos hy]; rfl
theorem keepN_no {P t : Int} {S : List Spd} {k : Nat} (hk : k < S.length) (h : ¬ t / P * P ≤ tS S k) : keepN P t S (k + 1) = keepN P t S k := by
  have e : S.take (k + 1) = S.take k ++ [S.getD k (0, 0)] := by
    rw [List.take_succ_eq_append_getElem hk]; simp [List.getD_eq_getElem?_getD, hk]
  have hy : ¬ keepC P t (S.getD k (0, 0)) = true := by unfold keepC; rw [decide_eq_true_eq]; exact h
  unfold keepN
  rw [e, List.filter_append, List.filter_cons_of_neg hy]; simp
theorem keepN_len (P t : Int) (S : List Spd) (k : Nat) : (keepN P t S k).length ≤ S.length :=
  Nat.le_trans (List.length_filter_le _ _) (by simp; omega)
theorem keepN_end (P t : Int) (S : List Spd) : keepN P t S S.length = S.filter (keepC P t) := by unfold keepN; rw [List.take_length]
theorem news_pair (w : World) (t x : Int) : ∀ j u, [Value.int .i64 t, Value.int .i64 x][j]? = some u → (w.alloc (.cells #[.int .i64 t, .int .i64 x] 33)).cell? ((⟨w.heap.size, 0, none⟩ : Addr).add j) = some u := fun j u hu => by
  obtain ⟨h1, h2⟩ := pair_cells w t x
  match j, hu with
  | 0, hu => simp at hu; subst hu; exact h1
  | 1, hu => simp at hu; subst hu; exact h2
  | j + 2, hu => simp at hu
theorem app_kept {w3 w5 W w6 : World} {B x : Nat} {P A : Int} {v : Value} {o : Obj} {r : Option Nat} (hg : W.grownBy w6 r) (hb : Below B w3 w5) (hX : BudCell w5 x P A v) (hW : W.heap = (w5.alloc o).heap ∧ W.os = w5.os ∧ W.tape = w5.tape ∧ W.output = w5.output) (hx : some x ≠ r) (hr : ∀ k, r = some k → B ≤ k) (hz : B < w5.heap.size) :
    BudCell w6 x P A v ∧ Below B w3 w6 := by
  obtain ⟨e1, e2, e3, e4⟩ := hW
  have hb5 : Below B w3 (w5.alloc o) := hb.alloc (by omega) o
  have hbW : Below B w3 W := ⟨e2.trans hb.os, e3.trans hb.tape, e4.trans hb.output, by rw [e1]; exact hb5.size, fun k hk => by rw [e1]; exact hb5.block k hk⟩
  have hxl := blk_lt hX
  have hXW : BudCell W x P A v := by unfold BudCell; rw [e1]; exact (heap_alloc_old w5 o hxl).trans hX
  have hsz : W.heap.size = w5.heap.size + 1 := by rw [e1]; simp
  exact ⟨(hg.block x (by omega) hx).trans hXW, hbW.grown hg (by omega) hr⟩
theorem step_app_out {ops : Array Oper} {o : Oper} {a : Act} {K : Act → World → Prop} {Q : Exit → Act → World → Prop} {E : Prop} (W : World) (hgd : o.guard = none) (s x : Operand)
    (ho : o.op = .call { callee := .builtin .append, args := #[s, x], argTypes := #[22, 22] })
    (w3 w5 : World) (B y : Nat) (P A t c : Int) (v : Value) (n : Nat) (D : List Spd) (hs : a.eval s = v) (hx : a.eval x = .slice (some ⟨w5.heap.size, 0, none⟩) 1 1) (hW : W.heap = (w5.alloc (.cells #[.int .i64 t, .int .i64 c] 33)).heap ∧ W.os = w5.os ∧ W.tape = w5.tape ∧ W.output = w5.output)
    (hn : n = D.length) (hl : n ≤ 100000) (hown : SpOwn w5 (B + 1) v D) (hb : Below B w3 w5) (hX : BudCell w5 y P A v) (hy : y ≤ B) (hz : B < w5.heap.size)
    (h : ∀ g cap w', SpOwn w' (B + 1) (.slice (some ⟨g, 0, none⟩) (n + 1) cap) (D ++ [(t, c)]) → BudCell w' y P A v → Below B w3 w' → w'.cell? ⟨y, 2, none⟩ = some v → w'.frozen? ⟨y, 2, none⟩ = false → K (a.put o.dst (.slice (some ⟨g, 0, none⟩) (n + 1) cap)) w') :
    if Region.wanted o (yielded ops a.tmps) = true then Oper.wp Try.prog o a W K Q else E := by
  obtain ⟨i0, hi, hz0, hz1, hz2⟩ := info_parts info_spend
  have hownW : SpOwn W (B + 1) v D := by
    obtain ⟨h1, h2⟩ := hown.below (below_alloc w5 (.cells #[.int .i64 t, .int .i64 c] 33))
    refine ⟨h1, ?_⟩
    rw [hW.1]; exact h2
  have hsz : W.heap.size = w5.heap.size + 1 := by rw [hW.1]; simp
  have hcell : ∀ x, W.cell? x = (w5.alloc (.cells #[.int .i64 t, .int .i64 c] 33)).cell? x := fun x => by unfold World.cell?; rw [hW.1]
  refine step_append_lies _ hgd s x 22 ho (B + 1) 33 i0 _ 2 16 Try.underlying22 hi hz0 hz1 hz2 rfl (by omega) v n (flat D) hs (by rw [hn]; exact hownW) ⟨w5.heap.size, 0, none⟩ 1 1 [.int .i64 t, .int .i64 c] hx rfl (fun j u hu => (hcell _).trans (news_pair w5 t c j u hu)) (by simp [Value.oneCell']) (by omega) (by unfold maxLen; omega) (by omega) (by omega) _ rfl ?_
  intro g cap w' ho' hg _ _
  obtain ⟨h1, h2⟩ := app_kept hg hb hX hW (fun e => by have := (hown.lt _ e.symm).1; omega) (fun k e => by have := (hown.lt k e).1; omega) hz
  refine h g cap w' ?_ h1 h2 h1.c2 (h1.frozen 2)
  unfold SpOwn; rw [List.length_append, flat_append, ← hn]; exact ho'
theorem St.done2 {w wr : World} {P A : Int} {v v0 : Value} {S S0 : List Spd} (h : St w wr P A v0 S0) (hown : SpOwn wr (w.heap.size + 2) v S) :
    BudCell (((wr.setCell ⟨w.heap.size + 1, 0, none⟩ (.int .i64 P)).setCell ⟨w.heap.size + 1, 1, none⟩ (.int .i64 A)).setCell ⟨w.heap.size + 1, 2, none⟩ v) (w.heap.size + 1) P A v ∧
    SpOwn (((wr.setCell ⟨w.heap.size + 1, 0, none⟩ (.int .i64 P)).setCell ⟨w.heap.size + 1, 1, none⟩ (.int .i64 A)).setCell ⟨w.heap.size + 1, 2, none⟩ v) w.heap.size v S ∧
    Below w.heap.size w (((wr.setCell ⟨w.heap.size + 1, 0, none⟩ (.int .i64 P)).setCell ⟨w.heap.size + 1, 1, none⟩ (.int .i64 A)).setCell ⟨w.heap.size + 1, 2, none⟩ v) :=
  ⟨((h.res.set0 P).set1 A).set2 v, (((hown.set_ _ _ (by simp)).set_ _ _ (by simp)).set_ _ _ (by simp)).mono (by omega),
    below_set (below_set (below_set h.below _ _ (by simp)) _ _ (by simp)) _ _ (by simp)⟩

set_option maxRecDepth 100000 in
set_option maxHeartbeats 4000000 in
theorem refClean_any (P A : Int) (B : Option Addr) (S : List Spd) (c : Nat) (t : Int) (w : World) (hS : SpAt w B S) (hA : ∀ a, B = some a → a.spot = none ∨ S.length = 0) (hN : B = none → S.length = 0 ∧ c = 0) (hl : S.length ≤ 100000) :
    Calls Try.prog 42 #[.agg #[.int .i64 P, .int .i64 A, .slice B S.length c], .int .i64 t] w (SpendP w P A (clS P A S t) (clE P A S t)) := by
  have HS := Lib.hid hS
  clear hS
  go_enter Try.func42, Try.ntmps42
  go_wp2_with fail
  refine (copy_any P A B S c _ ((HS.out.alloc _).alloc _) hA hN hl).mono ?_
  rintro e w1 ⟨v, rfl, hown, hb⟩
  obtain ⟨C, c', rfl, -, -, -⟩ := hown.at_
  obtain ⟨⟨hX, hY⟩, -, hSt⟩ := St.start hb hown
  have x0 := hX.c0
  have x1 := hX.c1
  have f0 := hX.frozen 0
  have f1 := hX.frozen 1
  have f2 := hX.frozen 2
  have x2 := hX.c2
  clear hX hY hb hown hA hN HS
  go_wp2_with fail
  clear x0 x1 x2 f0 f1 f2
  obtain ⟨C', c'', ec, hC, -, -⟩ := hSt.own.at_
  injection ec with ec1 ec2 ec3
  subst ec1; subst ec3
  refine ret_below (refCheck_any P A C S c' _ hC hl) fun w3 hb3 => ?_
  have hSt3 := hSt.later hb3
  clear hSt hb3 hC
  have x0 := hSt3.box.c0
  have x1 := hSt3.box.c1
  have x2 := hSt3.box.c2
  have y0 := hSt3.res.c0
  have y1 := hSt3.res.c1
  have y2 := hSt3.res.c2
  have f0 := hSt3.res.frozen 0
  have f1 := hSt3.res.frozen 1
  have f2 := hSt3.res.frozen 2
  have hs3 := hSt3.size
  have HST := Lib.hid hSt3
  clear hSt3
  by_cases hok : BudOK P A S
  case neg =>
    have HV := Lib.hid (clS_err (clE_bad (t := t) hok) (by omega))
    rw [← budE_bad hok]
    clear hok
    go_wp2_with fail
    obtain ⟨d1, d2⟩ := HST.out.done
    exact bodyPost_ret (results_bud2 rfl _ _ (w.heap.size + 1) rfl d1) rfl (SpendP.mk HV.out d2)
  case pos =>
  have HOK := Lib.hid hok
  rw [budE_ok hok]
  clear hok
  by_cases g0 : t < 0
  · have HV := Lib.hid (clS_err (clE_time (t := t) HOK.out (fun h => by omega)) (by omega))
    go_wp2_with fail
    obtain ⟨d1, d2⟩ := HST.out.done
    exact bodyPost_ret (results_bud2 rfl _ _ (w.heap.size + 1) rfl d1) rfl (SpendP.mk HV.out d2)
  by_cases g1 : 1099511627776 < t
  · have HV := Lib.hid (clS_err (clE_time (t := t) HOK.out (fun h => by omega)) (by omega))
    go_wp2_with fail
    obtain ⟨d1, d2⟩ := HST.out.done
    exact bodyPost_ret (results_bud2 rfl _ _ (w.heap.size + 1) rfl d1) rfl (SpendP.mk HV.out d2)
  have HT := Lib.hid (show 0 ≤ t ∧ t ≤ 1099511627776 by omega)
  have HV := Lib.hid (clS_ok (clE_ok HOK.out HT.out))
  have p1 := HOK.out.1.1
  have p2 := HOK.out.1.2.1
  go_wp2_with fail
  refine gen_world fun w4 hw4 => ?_
  have hb4 : Below w3.heap.size w3 w4 := by rw [hw4]; exact below_alloc _ _
  have hO4 : BudCell w4 w3.heap.size P A (.slice none 0 0) := by rw [hw4]; exact BudCell.new _ _ _ rfl
  have hz4 : w3.heap.size + 1 ≤ w4.heap.size := by rw [hw4]; simp
  clear hw4 x0 x1 x2 y0 y1 y2 f0 f1 f2 g0 g1
  have HB := Lib.hid (RowOK.times HOK.out.2.1)
  obtain ⟨m1, m2⟩ := HT.out
  have q2 : t.tdiv P = t / P := Int.tdiv_eq_ediv_of_nonneg m1
  have z1 : ¬ P = 0 := by omega
  have z2 : (P == 0) = false := by simp; omega
  have b3 := Int.ediv_nonneg m1 (show 0 ≤ P by omega)
  have b4 := Int.ediv_le_self P m1
  have b5 : t / P * P ≤ t := Int.ediv_mul_le t (by omega)
  have b6 : 0 ≤ t / P * P := Int.mul_nonneg b3 (by omega)
  have v2 : IntKind.i64.wrap (t / P) = t / P := IntWalk.i64_in _ (by omega)
  have v3 : IntKind.i64.wrap (t / P * P) = t / P * P := IntWalk.i64_in _ (by omega)
  go_loopw [7] (fun i wr => ∃ (k : Nat) (v : Value), k ≤ S.length ∧ i = .int .i64 k ∧ BudCell wr w3.heap.size P A v ∧ SpOwn wr (w3.heap.size + 1) v (keepN P t S k) ∧ Below w3.heap.size w3 wr) (fun i _ => S.length - (intOf i).toNat)
  case atStart => exact ⟨0, .slice none 0 0, Nat.zero_le _, rfl, hO4, SpOwn.nil _ _, hb4⟩
  case round =>
    obtain ⟨k, v, hk, rfl, hO, hown, hbr⟩ := hrel
    clear hO4 hb4
    have hStr := HST.out.later hbr
    have x0 := hStr.box.c0
    have x2 := hStr.box.c2
    have HSR := Lib.hid hStr
    have hzr : w3.heap.size < wr.heap.size := blk_lt hO
    have hs1 := hStr.size
    clear hStr
    by_cases hlt : k < S.length
    · obtain ⟨C2, c2, ec, hC, -, -⟩ := HSR.out.own.at_
      injection ec with ec1 ec2 ec3
      subst ec1; subst ec3
      obtain ⟨b, off, rfl, hbl, e0, e1⟩ := hC k hlt
      clear hC
      have HO := Lib.hid hO
      have HW := Lib.hid hown
      clear hO hown
      go_wp2_with fail
      go_quiet (fail)
      by_cases hkp : t / P * P ≤ tS S k
      · have HK := Lib.hid (keepN_yes hlt hkp)
        have hKL := keepN_len P t S k
        obtain ⟨n, hn⟩ : ∃ n, n = (keepN P t S k).length := ⟨_, rfl⟩
        obtain ⟨V, cv, ev, -, -, -⟩ := HW.out.at_
        rw [← hn] at ev hKL
        subst ev
        have HN := Lib.hid hn
        clear hn
        go_wp2_with fail
        refine gen_world fun w5 hw5 => ?_
        have hO5 : BudCell w5 w3.heap.size P A (.slice V n cv) := by rw [hw5]; exact HO.out
        have HW5 := Lib.hid (show SpOwn w5 (w3.heap.size + 1) (.slice V n cv) (keepN P t S k) by rw [hw5]; exact HW.out)
        have o2 := hO5.c2
        have X2 : w5.cell? ⟨w.heap.size, 2, none⟩ = some (.slice (some ⟨b, off, none⟩) S.length c') := by rw [hw5]; exact x2
        have E0 : w5.cell? ⟨b, off + k * 2, none⟩ = some (.int .i64 (tS S k)) := by rw [hw5]; exact e0
        have E1 : w5.cell? ⟨b, off + k * 2 + 1, none⟩ = some (.int .i64 (cS S k)) := by rw [hw5]; exact e1
        have HO5 := Lib.hid hO5
        have hb5 : Below w3.heap.size w3 w5 := by rw [hw5]; exact below_drewN hbr _
        have hz5 : w3.heap.size < w5.heap.size := blk_lt hO5
        have hbl5 : b < w5.heap.size := by rw [hw5]; exact hbl
        clear hw5 x0 x2 e0 e1 HO HW hO5
        have hs5 : w.heap.size < w5.heap.size := by omega
        go_region_law (go_loud (refine step_app_out _ rfl (.tmp 48) (.tmp 54) rfl w3 w5 w3.heap.size w3.heap.size P A (tS S k) (cS S k) (.slice V n cv) n (keepN P t S k) (by simp [Act.eval]) (by simp [Act.eval]) ⟨rfl, rfl, rfl, rfl⟩ HN.out (by omega) HW5.out hb5 HO5.out (Nat.le_refl _) hz5 ?_; intro g6 c6 w6 hown6 hX6 hB6 u2 u3))
        all_goals
          go_wp2
          go_roundw
          case rel =>
            refine ⟨k + 1, .slice (some ⟨_, 0, none⟩) (n + 1) _, by omega, by go_num, hX6.set2 _, ?_, below_set hB6 _ _ (by simp)⟩
            refine SpOwn.set_ ?_ _ _ (by simp)
            rw [HK.out]; exact hown6
          case measure => simp [intOf]; omega
      · have HK := Lib.hid (keepN_no hlt hkp)
        have HO6 := Lib.hid HO.out
        go_wp2_with fail
        go_roundw
        case rel => exact ⟨k + 1, v, by omega, by go_num, HO6.out, by rw [HK.out]; exact HW.out, below_drewN hbr _⟩
        case measure => simp [intOf]; omega
    · have hke : k = S.length := by omega
      have o0 := hO.c0
      have o1 := hO.c1
      have o2 := hO.c2
      have y0 := HSR.out.res.c0
      have y1 := HSR.out.res.c1
      have y2 := HSR.out.res.c2
      have f0 := HSR.out.res.frozen 0
      have f1 := HSR.out.res.frozen 1
      have f2 := HSR.out.res.frozen 2
      have HD := Lib.hid (HSR.out.done2 (hown.mono (show w.heap.size + 2 ≤ w3.heap.size + 1 by omega)))
      obtain ⟨V, cv, ev, -, -, -⟩ := hown.at_
      obtain ⟨n, hn⟩ : ∃ n, n = (keepN P t S k).length := ⟨_, rfl⟩
      rw [← hn] at ev
      subst ev
      have HKE := Lib.hid hke
      clear hO hown hn hke
      go_wp2_with fail
      obtain ⟨d1, d2⟩ := HD.out
      rw [HKE.out, keepN_end] at d2
      exact bodyPost_ret (results_bud2 rfl _ _ (w.heap.size + 1) rfl d1) rfl (SpendP.mk HV.out d2)
end Go.Proofs.Ytmnkgfimdlhhiaa
namespace Go.Proofs.Ytmnkgfimdlhhiaa
open Go.RowKit

set_option maxRecDepth 100000 in
set_option maxHeartbeats 1000000 in
theorem refSame_true (P A : Int) (A1 A2 : Option Addr) (S : List Spd) (c1 c2 : Nat) (w : World) (h1 : SpAt w A1 S) (h2 : SpAt w A2 S) (hl : S.length ≤ 200000) :
    Calls Try.prog 33 #[.agg #[.int .i64 P, .int .i64 A, .slice A1 S.length c1], .agg #[.int .i64 P, .int .i64 A, .slice A2 S.length c2]] w (RetB (.bool true) w) := by
  have H1 := Lib.hid h1
  have H2 := Lib.hid h2
  clear h1 h2
  have n1 : (P != P) = false := by simp
  have n2 : (A != A) = false := by simp
  have n3 : ((S.length : Int) != (S.length : Int)) = false := by simp
  go_enter Try.func33, Try.ntmps33
  go_wp2_with fail
  refine gen_world fun w1 hw1 => ?_
  have hb : Below w.heap.size w w1 := by rw [hw1]; exact (below_alloc _ _).alloc (by simp) _
  have hX : BudCell w1 w.heap.size P A (.slice A1 S.length c1) := by rw [hw1]; exact (BudCell.new _ _ _ rfl).alloc _
  have hY : BudCell w1 (w.heap.size + 1) P A (.slice A2 S.length c2) := by rw [hw1]; exact BudCell.new _ _ _ (by simp)
  have G1 := Lib.hid (H1.out.below hb)
  have G2 := Lib.hid (H2.out.below hb)
  have HX := Lib.hid hX
  have HY := Lib.hid hY
  clear hw1 hX hY H1 H2
  go_loopw [5] (fun i wr => ∃ (k : Nat), k ≤ S.length ∧ i = .int .i64 k ∧ Below w1.heap.size w1 wr) (fun i _ => S.length - (intOf i).toNat)
  case atStart => exact ⟨0, Nat.zero_le _, rfl, Below.refl _ _⟩
  case round =>
    obtain ⟨k, hk, rfl, hbr⟩ := hrel
    have x2 := (HX.out.below hbr).c2
    have y2 := (HY.out.below hbr).c2
    by_cases hlt : k < S.length
    · obtain ⟨b, off, rfl, hbl, q1, q2⟩ := G1.out.below hbr k hlt
      obtain ⟨b', off', rfl, hbl', r1, r2⟩ := G2.out.below hbr k hlt
      have n4 : (tS S k != tS S k) = false := by simp
      have n5 : (cS S k != cS S k) = false := by simp
      go_wp2_with fail
      go_quiet (fail)
      go_wp2_with fail
      go_roundw
      case rel => exact ⟨k + 1, by omega, by go_num, below_drewN hbr _⟩
      case measure => simp [intOf]; omega
    · go_wp2_with fail
      go_ret
      exact RetB.bool rfl (hb.trans (hbr.mono hb.size))
set_option maxHeartbeats 1000000 in
theorem same_true (P A E : Int) (A1 A2 : Option Addr) (S : List Spd) (c1 c2 : Nat) (w : World) (h1 : SpAt w A1 S) (h2 : SpAt w A2 S) (hl : S.length ≤ 200000) :
    Calls Try.prog 43 #[.agg #[.int .i64 P, .int .i64 A, .slice A1 S.length c1], .agg #[.int .i64 P, .int .i64 A, .slice A2 S.length c2], .int .i64 E, .int .i64 E] w (RetB (.bool true) w) := by
  have H1 := Lib.hid h1
  have H2 := Lib.hid h2
  have n1 : (E == E) = true := by simp
  clear h1 h2
  go_enter Try.func43, Try.ntmps43
  go_wp2_with fail
  refine ret_below (refSame_true P A A1 A2 S c1 c2 _ ((H1.out.alloc _).alloc _) ((H2.out.alloc _).alloc _) hl) fun w1 hb => ?_
  go_wp2
  go_ret
  exact RetB.bool rfl (((below_alloc _ _).alloc (by simp) _).trans (hb.mono (by simp; omega)))

/-- What a call that returns a budget leaves: the budget's own slice written out. -/
theorem SpendP.open_ {w : World} {P A E : Int} {S : List Spd} {e : Ending} {w' : World} (h : SpendP w P A S E e w') : ∃ C c, e = .returned (.tuple #[.agg #[.int .i64 P, .int .i64 A, .slice C S.length c], .int .i64 E]) ∧ SpAt w' C S ∧ Below w.heap.size w w' := by
  obtain ⟨v, rfl, h1, h2⟩ := h
  obtain ⟨C, c, rfl, h3, -, -⟩ := h1.at_
  exact ⟨C, c, rfl, h3, h2⟩
theorem spS_len (P A : Int) (S : List Spd) (t x : Int) : (spS P A S t x).length ≤ S.length + 1 := by
  unfold spS; split
  · simp
  · omega
theorem clS_len (P A : Int) (S : List Spd) (t : Int) : (clS P A S t).length ≤ S.length := by
  unfold clS; split
  · exact List.length_filter_le _ _
  · omega
set_option maxRecDepth 100000 in
set_option maxHeartbeats 4000000 in
theorem agree_true (P A : Int) (B : Option Addr) (S : List Spd) (c : Nat) (t x : Int) (w : World) (hS : SpAt w B S) (hA : ∀ a, B = some a → a.spot = none ∨ S.length = 0) (hN : B = none → S.length = 0 ∧ c = 0) (hl : S.length ≤ 10000) (ht : t ≤ 2199023255552) :
    Calls Try.prog 13 #[.agg #[.int .i64 P, .int .i64 A, .slice B S.length c], .int .i64 t, .int .i64 x] w (RetB (.bool true) w) := by
  have HS := Lib.hid hS
  have HA := Lib.hid hA
  have HN := Lib.hid hN
  clear hS hA hN
  go_enter Try.func13, Try.ntmps13
  go_wp2_with fail
  have hl1 := spS_len P A S t x
  have hl3 := clS_len P A S t
  generalize hS1 : spS P A S t x = S1 at *
  generalize hE1 : spE P A S t x = E1 at *
  generalize hS3 : clS P A S t = S3 at *
  generalize hE3 : clE P A S t = E3 at *
  have HS1 := Lib.hid hS1
  have HE1 := Lib.hid hE1
  have HS3 := Lib.hid hS3
  have HE3 := Lib.hid hE3
  clear hS1 hE1 hS3 hE3
  refine (spend_any P A B S c t x _ (HS.out.alloc _) HA.out HN.out (by omega) ht).mono ?_
  rw [HS1.out, HE1.out]
  intro e w1 hr
  obtain ⟨C1, c1, rfl, hC1, hb1⟩ := hr.open_
  clear hr
  have hbw1 : Below w.heap.size w w1 := (below_alloc _ _).trans (hb1.mono (by simp))
  have HX1 := Lib.hid ((BudCell.new (w := w) P A (.slice B S.length c) rfl).below hb1)
  have HC11 := Lib.hid hC1
  clear hb1 hC1
  have x10 := HX1.out.c0
  have x11 := HX1.out.c1
  have x12 := HX1.out.c2
  have sx1 := blk_lt HX1.out
  go_wp2_with fail
  clear x10 x11 x12
  refine (refSpend_any P A B S c t x _ ((HS.out.below hbw1).alloc _) HA.out HN.out (by omega) ht).mono ?_
  rw [HS1.out, HE1.out]
  intro e w2 hr
  obtain ⟨C2, c2, rfl, hC2, hb2⟩ := hr.open_
  clear hr
  have hp2 : Below w1.heap.size w1 w2 := (below_alloc _ _).trans (hb2.mono (by simp))
  have hbw2 : Below w.heap.size w w2 := hbw1.trans (hp2.mono hbw1.size)
  have HX2 := Lib.hid (HX1.out.below hp2)
  have HR21 := Lib.hid ((BudCell.new (w := w1) P A (.slice C1 S1.length c1) rfl).below hb2)
  have HC21 := Lib.hid (HC11.out.below hp2)
  have HC22 := Lib.hid hC2
  clear hb2 hC2
  have x20 := HX2.out.c0
  have x21 := HX2.out.c1
  have x22 := HX2.out.c2
  have sx2 := blk_lt HX2.out
  go_wp2_with fail
  clear x20 x21 x22
  refine (clean_any P A B S c t _ ((HS.out.below hbw2).alloc _) HA.out HN.out (by omega)).mono ?_
  rw [HS3.out, HE3.out]
  intro e w3 hr
  obtain ⟨C3, c3, rfl, hC3, hb3⟩ := hr.open_
  clear hr
  have hp3 : Below w2.heap.size w2 w3 := (below_alloc _ _).trans (hb3.mono (by simp))
  have hbw3 : Below w.heap.size w w3 := hbw2.trans (hp3.mono hbw2.size)
  have HX3 := Lib.hid (HX2.out.below hp3)
  have HR31 := Lib.hid (HR21.out.below hp3)
  have HR32 := Lib.hid ((BudCell.new (w := w2) P A (.slice C2 S1.length c2) rfl).below hb3)
  have HC31 := Lib.hid (HC21.out.below hp3)
  have HC32 := Lib.hid (HC22.out.below hp3)
  have HC33 := Lib.hid hC3
  clear hb3 hC3
  have x30 := HX3.out.c0
  have x31 := HX3.out.c1
  have x32 := HX3.out.c2
  have sx3 := blk_lt HX3.out
  go_wp2_with fail
  clear x30 x31 x32
  refine (refClean_any P A B S c t _ ((HS.out.below hbw3).alloc _) HA.out HN.out (by omega)).mono ?_
  rw [HS3.out, HE3.out]
  intro e w4 hr
  obtain ⟨C4, c4, rfl, hC4, hb4⟩ := hr.open_
  clear hr
  have hp4 : Below w3.heap.size w3 w4 := (below_alloc _ _).trans (hb4.mono (by simp))
  have hbw4 : Below w.heap.size w w4 := hbw3.trans (hp4.mono hbw3.size)
  have HX4 := Lib.hid (HX3.out.below hp4)
  have HR41 := Lib.hid (HR31.out.below hp4)
  have HR42 := Lib.hid (HR32.out.below hp4)
  have HR43 := Lib.hid ((BudCell.new (w := w3) P A (.slice C3 S3.length c3) rfl).below hb4)
  have HC41 := Lib.hid (HC31.out.below hp4)
  have HC42 := Lib.hid (HC32.out.below hp4)
  have HC43 := Lib.hid (HC33.out.below hp4)
  have HC44 := Lib.hid hC4
  clear hb4 hC4
  have x40 := HX4.out.c0
  have x41 := HX4.out.c1
  have x42 := HX4.out.c2
  have sx4 := blk_lt HX4.out
  go_wp2_with fail
  refine gen_world fun w5 hw5 => ?_
  have hp5 : Below w4.heap.size w4 w5 := by rw [hw5]; exact below_alloc _ _
  have hR4 : BudCell w5 w4.heap.size P A (.slice C4 S3.length c4) := by rw [hw5]; exact BudCell.new _ _ _ rfl
  have hbw5 : Below w.heap.size w w5 := hbw4.trans (hp5.mono hbw4.size)
  clear hw5 x40 x41 x42
  have HX5 := Lib.hid (HX4.out.below hp5)
  have HS5 := Lib.hid (HS.out.below hbw5)
  have hR1 := HR41.out.below hp5
  have hR2 := HR42.out.below hp5
  have hR3 := HR43.out.below hp5
  have r10 := hR1.c0
  have r11 := hR1.c1
  have r12 := hR1.c2
  have sr1 := blk_lt hR1
  have HC51 := Lib.hid (HC41.out.below hp5)
  have r20 := hR2.c0
  have r21 := hR2.c1
  have r22 := hR2.c2
  have sr2 := blk_lt hR2
  have HC52 := Lib.hid (HC42.out.below hp5)
  have r30 := hR3.c0
  have r31 := hR3.c1
  have r32 := hR3.c2
  have sr3 := blk_lt hR3
  have HC53 := Lib.hid (HC43.out.below hp5)
  have r40 := hR4.c0
  have r41 := hR4.c1
  have r42 := hR4.c2
  have sr4 := blk_lt hR4
  have HC54 := Lib.hid (HC44.out.below hp5)
  have x50 := HX5.out.c0
  have x51 := HX5.out.c1
  have x52 := HX5.out.c2
  have sx5 := blk_lt HX5.out
  clear hR1 hR2 hR3 hR4 HX1 HX2 HX3 HX4 HR21 HR31 HR32 HR41 HR42 HR43 hbw1 hbw2 hbw3 hbw4 hp2 hp3 hp4 hp5 sx1 sx2 sx3 sx4
  have n1 : (budE P A S != budE P A S) = false := by simp
  refine wp_region_grew (by kernel_rfl) (by kernel_rfl) ?_
  repeat (go_big_quiet_step ((first
    | (go_at_call 43; exact grew_of (same_true _ _ _ _ _ _ _ _ _ (by first | exact HC51.out.below (grewW.below _ _) | exact HC53.out.below (grewW.below _ _)) (by first | exact HC52.out.below (grewW.below _ _) | exact HC54.out.below (grewW.below _ _)) (by omega)))
    | (go_at_call 21; exact grew_of (check_any P A B S c _ (HS5.out.below (grewW.below _ _)) (by omega)))
    | (go_at_call 44; exact grew_of (refCheck_any P A B S c _ (HS5.out.below (grewW.below _ _)) (by omega))))))
  refine wpQuiet_nil ?_
  intro w6 hb6
  clear r10 r11 r12 r20 r21 r22 r30 r31 r32 r40 r41 r42 sr1 sr2 sr3 sr4 x50 x51 x52 sx5 n1
  have HX6 := Lib.hid (HX5.out.below hb6)
  have HS6 := Lib.hid (HS5.out.below hb6)
  have hbw6 : Below w.heap.size w w6 := hbw5.trans (hb6.mono hbw5.size)
  have x60 := HX6.out.c0
  have x61 := HX6.out.c1
  have x62 := HX6.out.c2
  have sx6 := blk_lt HX6.out
  have n2 : (leftV P A S t == leftV P A S t) = true := by simp
  have n3 : (totV S x t == totV S x t) = true := by simp
  by_cases hok : BudOK P A S
  · have HOK := Lib.hid hok
    have HE := Lib.hid (budE_ok hok)
    have HCh := Lib.hid (RowOK.cheap hok.2.1)
    have HTi := Lib.hid (RowOK.times hok.2.1)
    have HPP := Lib.hid (show 1 ≤ P ∧ P ≤ 1099511627776 from ⟨hok.1.1, hok.1.2.1⟩)
    have HAA := Lib.hid (show 0 ≤ A ∧ A ≤ 1073741824 from ⟨hok.1.2.2.1, hok.1.2.2.2.1⟩)
    clear hok
    go_wp2_with fail
    have hchk : ∀ W, Below w6.heap.size w6 W → Calls Try.prog 44 #[.agg #[.int .i64 P, .int .i64 A, .slice B S.length c]] W (RetB (.int .i64 0) W) := fun W hW => by
      have := refCheck_any P A B S c W (HS6.out.below hW) (by omega)
      rw [HE.out] at this; exact this
    have HCK := Lib.hid hchk
    clear hchk
    refine wp_region_grew (by kernel_rfl) (by kernel_rfl) ?_
    repeat (go_big_quiet_step ((first
      | (go_at_call 44; exact grew_of (HCK.out _ (grewW.below _ _)))
      | (go_at_call 20; exact grew_of (left_any P A B S c t _ HPP.out HAA.out (HS6.out.below (grewW.below _ _)) HTi.out HCh.out (by omega) ht))
      | (go_at_call 45; exact grew_of (refLeft_any P A B S c t _ HPP.out HAA.out (HS6.out.below (grewW.below _ _)) HCh.out (by omega) ht))
      | (go_at_call 23; exact grew_of (total_any P A B S c x t _ (HS6.out.below (grewW.below _ _)) HCh.out (by omega)))
      | (go_at_call 46; exact grew_of (refTotal_any P A B S c x t _ (HS6.out.below (grewW.below _ _)) HCh.out (by omega))))))
    refine wpQuiet_nil ?_
    intro w7 hb7
    go_wp2
    go_ret
    exact RetB.bool rfl (hbw6.trans (hb7.mono hbw6.size))
  · have HE := Lib.hid (budE_bad hok)
    clear hok
    go_wp2_with fail
    have hchk : ∀ W, Below w6.heap.size w6 W → Calls Try.prog 44 #[.agg #[.int .i64 P, .int .i64 A, .slice B S.length c]] W (RetB (.int .i64 56) W) := fun W hW => by
      have := refCheck_any P A B S c W (HS6.out.below hW) (by omega)
      rw [← HE.out] at this; exact this
    have HCK := Lib.hid hchk
    clear hchk
    refine wp_region_grew (by kernel_rfl) (by kernel_rfl) ?_
    repeat (go_big_quiet_step ((first
      | (go_at_call 44; exact grew_of (HCK.out _ (grewW.below _ _))))))
    refine wpQuiet_nil ?_
    intro w7 hb7
    go_wp2
    go_ret
    exact RetB.bool rfl (hbw6.trans (hb7.mono hbw6.size))
end Go.Proofs.Ytmnkgfimdlhhiaa
namespace Go.Proofs.Ytmnkgfimdlhhiaa
open Go.RowKit

/-- One of some numbers. -/
def OfP (D : Nat) (L R : List Int) (w : World) (e : Ending) (w' : World) : Prop := ∃ k : Nat, k < L.length ∧ e = .returned (.int .i64 (nth L k)) ∧ DiceAt w' D R.tail ∧ w.grownBy w' (some D)
set_option maxHeartbeats 1000000 in
theorem of_any (D : Nat) (R : List Int) (A : Option Addr) (L : List Int) (c : Nat) (w : World) (h : DiceAt w D R) (hI : IntsAt w A L) (hA : ∀ b off, A = some ⟨b, off, none⟩ → b ≠ D) (h0 : 0 < L.length) (hl : L.length ≤ 1000) :
    Calls Try.prog 17 #[.pointer (some ⟨D, 0, none⟩), .slice A L.length c] w (OfP D L R w) := by
  have HI := Lib.hid hI
  have HA := Lib.hid hA
  have HD := Lib.hid h
  clear hI hA h
  go_enter Try.func17, Try.ntmps17
  go_wp2_with fail
  refine (next_any D R L.length _ HD.out (by omega)).mono ?_
  rintro e w1 ⟨rfl, hD1, hg⟩
  obtain ⟨m1, m2⟩ := nextV_range R L.length (by omega)
  generalize nextV R L.length = q at *
  obtain ⟨k, rfl⟩ := Int.eq_ofNat_of_zero_le m1
  have hk : k < L.length := by omega
  obtain ⟨b, off, rfl, hb, hc⟩ := (HI.out.grown hg HA.out) k hk
  have HR := Lib.hid (show OfP D L R w (.returned (.int .i64 (nth L k))) w1 from ⟨k, hk, rfl, hD1, hg⟩)
  clear hD1 hg m1
  go_wp2_with fail
  go_ret
  exact HR.out

/-! ### Adding a spend -/
/-- Rows up to now are good, none is later than the time, no period is overspent. -/
structure Made (P A : Int) (S : List Spd) (time : Int) : Prop where
  rows : ∀ k, k < S.length → RowOK S k
  last : ∀ k, k < S.length → tS S k ≤ time
  fits : ∀ k, k < S.length → used P S (tS S k) ≤ A
theorem Made.nil (P A : Int) : Made P A [] 0 := ⟨fun k hk => absurd hk (by simp), fun k hk => absurd hk (by simp), fun k hk => absurd hk (by simp)⟩
theorem Made.later {P A : Int} {S : List Spd} {t t' : Int} (h : Made P A S t) (ht : t ≤ t') : Made P A S t' := ⟨h.rows, fun k hk => by have := h.last k hk; omega, h.fits⟩
theorem getD_old {S : List Spd} {y : Spd} {k : Nat} (hk : k < S.length) : (S ++ [y]).getD k (0, 0) = S.getD k (0, 0) := by
  simp [List.getD_eq_getElem?_getD, List.getElem?_append_left hk]
theorem getD_new {S : List Spd} {y : Spd} : (S ++ [y]).getD S.length (0, 0) = y := by
  simp [List.getD_eq_getElem?_getD]
theorem sumK_old {T : Spd → Bool} {S : List Spd} {y : Spd} : ∀ k, k ≤ S.length → sumK T (S ++ [y]) k = sumK T S k
  | 0, _ => rfl
  | k + 1, hk => by rw [sumK_succ, sumK_succ, sumK_old k (by omega), getD_old (by omega)]
theorem sumT_snoc (T : Spd → Bool) (S : List Spd) (y : Spd) : sumT T (S ++ [y]) = sumT T S + addT T y := by
  unfold sumT
  rw [List.length_append, List.length_singleton, sumK_succ, sumK_old _ (Nat.le_refl _), getD_new]
theorem used_same {P t t' : Int} (S : List Spd) (h : t / P = t' / P) : used P S t = used P S t' := by
  unfold used; congr 1; funext x; unfold perT; rw [h]
theorem Made.snoc {P A : Int} {S : List Spd} {t c : Int} (h : Made P A S t) (ht : 0 ≤ t ∧ t ≤ 1099511627776) (hc : 1 ≤ c ∧ c ≤ 1073741824) (hu : used P S t + c ≤ A) : Made P A (S ++ [(t, c)]) t := by
  have key : ∀ k, k < (S ++ [((t, c) : Spd)]).length → k < S.length ∨ k = S.length := fun k hk => by simp at hk; omega
  refine ⟨fun k hk => ?_, fun k hk => ?_, fun k hk => ?_⟩
  · rcases key k hk with h1 | h1
    · have hr := h.rows k h1
      unfold RowOK tS cS at hr ⊢
      rw [getD_old h1]
      refine ⟨hr.1, hr.2.1, fun h0 => ?_, hr.2.2.2.1, hr.2.2.2.2⟩
      rw [getD_old (show k - 1 < S.length by omega)]; exact hr.2.2.1 h0
    · subst h1
      unfold RowOK tS cS
      rw [getD_new]
      refine ⟨ht.1, ht.2, fun h0 => ?_, hc.1, hc.2⟩
      rw [getD_old (show S.length - 1 < S.length by omega)]; exact h.last _ (by omega)
  · rcases key k hk with h1 | h1
    · unfold tS; rw [getD_old h1]; exact h.last k h1
    · subst h1; unfold tS; rw [getD_new]; exact Int.le_refl _
  · have hsum : ∀ t', used P (S ++ [((t, c) : Spd)]) t' = used P S t' + addT (perT P t') (t, c) := fun t' => sumT_snoc _ _ _
    rcases key k hk with h1 | h1
    · have e : tS (S ++ [((t, c) : Spd)]) k = tS S k := by unfold tS; rw [getD_old h1]
      rw [e, hsum]
      by_cases hp : t / P = tS S k / P
      · rw [used_same S hp.symm, addT_yes (by unfold perT; exact decide_eq_true hp)]; exact hu
      · rw [addT_no (by unfold perT; exact decide_eq_false hp), Int.add_zero]; exact h.fits k h1
    · subst h1
      have e : tS (S ++ [((t, c) : Spd)]) S.length = t := by unfold tS; rw [getD_new]
      rw [e, hsum, addT_yes (by unfold perT; exact decide_eq_true rfl)]; exact hu
theorem Made.ok {P A : Int} {S : List Spd} {t : Int} (h : Made P A S t) (hP : 1 ≤ P ∧ P ≤ 1099511627776) (hA : 0 ≤ A ∧ A ≤ 1073741824) (hl : S.length ≤ 256) : BudOK P A S := ⟨⟨hP.1, hP.2, hA.1, hA.2, hl⟩, h.rows, h.fits⟩
end Go.Proofs.Ytmnkgfimdlhhiaa
namespace Go.Proofs.Ytmnkgfimdlhhiaa
open Go.RowKit

theorem BudCell.grown {w w' : World} {x D : Nat} {P A : Int} {v : Value} (h : BudCell w x P A v) (hg : w.grownBy w' (some D)) (hx : x ≠ D) : BudCell w' x P A v :=
  (hg.block x (blk_lt h) (fun e => by injection e with e; exact hx e)).trans h
theorem SpOwn.grown {w w' : World} {base D : Nat} {v : Value} {S : List Spd} (h : SpOwn w base v S) (hg : w.grownBy w' (some D)) (hD : D < base) : SpOwn w' base v S := by
  obtain ⟨h1, h2⟩ := h
  refine ⟨h1, ?_⟩
  rcases h2 with h2 | ⟨g, cap, cur, hv, hgb, hh, r⟩
  · exact .inl h2
  · exact .inr ⟨g, cap, cur, hv, hgb, (hg.block g (blk_lt hh) (fun e => by injection e with e; omega)).trans hh, r⟩
theorem grown_set {w w' : World} {r : Option Nat} (h : w.grownBy w' r) (p : Addr) (u : Value) (hp : w.heap.size ≤ p.block) : w.grownBy (w'.setCell p u) r :=
  ⟨h.os, h.tape, h.output, by simpa [World.setCell] using h.size, fun k hk hne => (Below.heap_setCell w' p u k (by omega)).trans (h.block k hk hne)⟩
/-- A budget made by dice. -/
def BudP (D : Nat) (w : World) (e : Ending) (w' : World) : Prop :=
  ∃ (P A : Int) (S : List Spd) (v : Value) (R' : List Int) (tm : Int), e = .returned (.agg #[.int .i64 P, .int .i64 A, v]) ∧ (1 ≤ P ∧ P ≤ 10) ∧ (0 ≤ A ∧ A ≤ 5) ∧ Made P A S tm ∧ tm ≤ 25 ∧ S.length ≤ 5 ∧ SpOwn w' w.heap.size v S ∧ DiceAt w' D R' ∧ w.grownBy w' (some D)
/-- The loop of Budget, under way. -/
structure BLoop (w : World) (D bb : Nat) (P A : Int) (n : Nat) (tm : Int) (S : List Spd) (v : Value) (R : List Int) (wr : World) : Prop where
  n5 : n ≤ 5
  made : Made P A S tm
  tm0 : 0 ≤ tm
  tm1 : tm + 5 * n ≤ 25
  len : S.length + n ≤ 5
  box : BudCell wr bb P A v
  own : SpOwn wr (bb + 1) v S
  res : BudCell wr w.heap.size 0 0 (.slice none 0 0)
  dice : DiceAt wr D R
  grew : w.grownBy wr (some D)
theorem BLoop.next {w wr w' : World} {D bb : Nat} {P A : Int} {n : Nat} {tm : Int} {S : List Spd} {v : Value} {R : List Int} (h : BLoop w D bb P A (n + 1) tm S v R wr) (hD : D < w.heap.size) (hbb : w.heap.size ≤ bb) {d : Int} (hd : 0 ≤ d ∧ d ≤ 5) {R' : List Int} (hD' : DiceAt w' D R') (hg : wr.grownBy w' (some D)) : BLoop w D bb P A n (tm + d) S v R' w' :=
  ⟨by have := h.n5; omega, h.made.later (by omega), by have := h.tm0; omega, by have := h.tm1; push_cast at this; omega, by have := h.len; omega, h.box.grown hg (by omega), h.own.grown hg (by omega), h.res.grown hg (by omega), hD', grown_trans h.grew hg⟩
theorem BLoop.below {w wr w' : World} {D bb : Nat} {P A : Int} {n : Nat} {tm : Int} {S : List Spd} {v : Value} {R : List Int} (h : BLoop w D bb P A n tm S v R wr) (hb : Below wr.heap.size wr w') : BLoop w D bb P A n tm S v R w' :=
  ⟨h.n5, h.made, h.tm0, h.tm1, h.len, h.box.below hb, h.own.below hb, h.res.below hb, h.dice.below hb, grown_trans h.grew (grown_of_below hb)⟩
theorem BLoop.dice2 {w wr w' : World} {D bb : Nat} {P A : Int} {n : Nat} {tm : Int} {S : List Spd} {v : Value} {R : List Int} (h : BLoop w D bb P A n tm S v R wr) (hD : D < w.heap.size) (hbb : w.heap.size ≤ bb) {R' : List Int} (hD' : DiceAt w' D R') (hg : wr.grownBy w' (some D)) : BLoop w D bb P A n tm S v R' w' :=
  ⟨h.n5, h.made, h.tm0, h.tm1, h.len, h.box.grown hg (by omega), h.own.grown hg (by omega), h.res.grown hg (by omega), hD', grown_trans h.grew hg⟩
/-- What an append in the round leaves. -/
theorem BLoop.app {w wr w' : World} {D bb : Nat} {P A : Int} {n : Nat} {tm c : Int} {S : List Spd} {v v' : Value} {R : List Int} {o : Obj} (h : BLoop w D bb P A n tm S v R wr) (hD : D < w.heap.size) (hbb : w.heap.size < bb) (hlen : S.length + n + 1 ≤ 5) (hc : 1 ≤ c ∧ c ≤ 1073741824) (hu : used P S tm + c ≤ A)
    (hg : (wr.alloc o).grownBy w' v.ownBlock) (hown : SpOwn w' (bb + 1) v' (S ++ [(tm, c)])) :
    BudCell w' bb P A v ∧ BLoop w D bb P A n tm (S ++ [(tm, c)]) v' R (w'.setCell ⟨bb, 2, none⟩ v') := by
  have hbl := blk_lt h.box
  have hob : ∀ k, v.ownBlock = some k → bb + 1 ≤ k := fun k e => (h.own.lt k e).1
  have hk : ∀ k, k ≤ bb → w'.heap[k]? = wr.heap[k]? := fun k hk => (hg.block k (by simp; omega) (fun e => by have := hob k e.symm; omega)).trans (heap_alloc_old wr o (by omega))
  have h1 : BudCell w' bb P A v := (hk _ (Nat.le_refl _)).trans h.box
  have h2 : BudCell w' w.heap.size 0 0 (.slice none 0 0) := (hk _ (by omega)).trans h.res
  have hd : DiceAt w' D R := h.dice.keep fun k hk' => hk k (by omega)
  have hs := hg.size
  simp at hs
  have hgr : w.grownBy w' (some D) := by
    have hg0 := h.grew
    exact ⟨hg.os.trans hg0.os, hg.tape.trans hg0.tape, hg.output.trans hg0.output, by have := hg0.size; omega, fun k hk' hne => (hk k (by omega)).trans (hg0.block k hk' hne)⟩
  have h25 := h.tm1
  have h0 := h.tm0
  refine ⟨h1, h.n5, h.made.snoc ⟨h0, by omega⟩ hc hu, h0, h25, by simp; omega, h1.set2 _, hown.set_ _ _ (by simp), h2.other _ _ (by simp; omega), hd.setCell _ _ (by simp; omega), ?_⟩
  exact ⟨hgr.os, hgr.tape, hgr.output, by simpa [World.setCell] using hgr.size, fun k hk' hne => (Below.heap_setCell w' ⟨bb, 2, none⟩ v' k (by simp; omega)).trans (hgr.block k hk' hne)⟩

set_option maxRecDepth 100000 in
set_option maxHeartbeats 4000000 in
theorem budget_any (D : Nat) (R : List Int) (w : World) (h : DiceAt w D R) :
    Calls Try.prog 16 #[.pointer (some ⟨D, 0, none⟩)] w (BudP D w) := by
  have hDl := h.lt
  have HD := Lib.hid h
  clear h
  go_enter Try.func16, Try.ntmps16
  go_wp2_with fail
  have hof := of_any D R (some ⟨w.heap.size + 1, 0, none⟩) [10, 1, 7] 3 _ ((HD.out.alloc (.cells #[.int .i64 0, .int .i64 0, .slice none 0 0] 24)).alloc (.cells ([10, 1, 7].map (Value.int .i64)).toArray 3))
    (by have := lit_ints (w.alloc (.cells #[.int .i64 0, .int .i64 0, .slice none 0 0] 24)) [10, 1, 7]; simpa using this) (fun b off e => by injection e with e; injection e with e1; omega) (by simp) (by simp)
  refine hof.mono ?_
  clear hof
  rintro e w1 ⟨k, hk, rfl, hD1, hg1⟩
  have hP : 1 ≤ nth [10, 1, 7] k ∧ nth [10, 1, 7] k ≤ 10 := by
    have : k = 0 ∨ k = 1 ∨ k = 2 := by simp at hk; omega
    rcases this with rfl | rfl | rfl <;> simp [nth]
  obtain ⟨P, hPe⟩ : ∃ P, P = nth [10, 1, 7] k := ⟨_, rfl⟩
  rw [← hPe] at hP ⊢
  have HG1 := Lib.hid (grown_trans (grown_of_below (r := some D) ((below_alloc w _).alloc (by simp) _)) hg1)
  have hres1 : BudCell w1 w.heap.size 0 0 (.slice none 0 0) := ((BudCell.new (w := w) 0 0 (.slice none 0 0) rfl).alloc _).grown hg1 (by omega)
  have HR1 := Lib.hid hres1
  clear hPe hg1 hres1 hk
  generalize R.tail = R1 at *
  go_wp2_with fail
  refine (next_any D R1 6 _ hD1 (by omega)).mono ?_
  rintro e w2 ⟨rfl, hD2, hg2⟩
  obtain ⟨m1, m2⟩ := nextV_range R1 6 (by omega)
  generalize nextV R1 6 = A at *
  have HG2 := Lib.hid (grown_trans HG1.out hg2)
  have HR2 := Lib.hid (HR1.out.grown hg2 (by omega))
  generalize R1.tail = R2 at *
  clear HG1 HR1 hD1 hg2
  go_wp2_with fail
  refine (next_any D R2 6 _ (by first | exact hD2.alloc _ | exact (((hD2.alloc _).setCell _ _ (by simp; omega)).setCell _ _ (by simp; omega)).setCell _ _ (by simp; omega)) (by omega)).mono ?_
  rintro e w4 ⟨rfl, hD4, hg4⟩
  have hs2 := hD2.lt
  have hgz := HG2.out.size
  have hbox4 : BudCell w4 w2.heap.size P A (.slice none 0 0) := by
    refine BudCell.grown ?_ hg4 (by omega)
    first | exact BudCell.new _ _ _ rfl | exact (((BudCell.new (w := w2) 0 0 (.slice none 0 0) rfl).set0 P).set1 A).set2 _
  have hres4 : BudCell w4 w.heap.size 0 0 (.slice none 0 0) := by
    refine BudCell.grown ?_ hg4 (by omega)
    first | exact HR2.out.alloc _ | exact (((HR2.out.alloc _).other _ _ (by have := blk_lt HR2.out; simp; omega)).other _ _ (by have := blk_lt HR2.out; simp; omega)).other _ _ (by have := blk_lt HR2.out; simp; omega)
  have hgr4 : w.grownBy w4 (some D) := by
    refine grown_trans HG2.out (grown_trans (grown_of_below ?_) hg4)
    first | exact below_alloc _ _ | exact below_set (below_set (below_set (below_alloc _ _) _ _ (by simp)) _ _ (by simp)) _ _ (by simp)
  obtain ⟨n1, n2⟩ := nextV_range R2 6 (by omega)
  generalize nextV R2 6 = nn at *
  obtain ⟨n, rfl⟩ := Int.eq_ofNat_of_zero_le n1
  have hwlt := blk_lt HR2.out
  have HB := Lib.hid (show BLoop w D w2.heap.size P A n 0 [] (.slice none 0 0) R2.tail w4 from ⟨by omega, Made.nil P A, by omega, by omega, by simp; omega, hbox4, SpOwn.nil _ _, hres4, hD4, hgr4⟩)
  obtain ⟨bb, hbb⟩ : ∃ bb, bb = w2.heap.size := ⟨_, rfl⟩
  rw [← hbb] at HB hwlt ⊢
  generalize R2.tail = R3 at *
  clear hbb hbox4 hres4 hgr4 hD4 hg4 hD2 HG2 HR2 n1 n2 hs2 hgz
  obtain ⟨p1, p2⟩ := hP
  have z1 : ¬ P = 0 := by omega
  have z2 : (P == 0) = false := by simp; omega
  go_wp2_with fail
  go_loopw [5, 4] (fun n t wr => ∃ (n' : Nat) (tm : Int) (S : List Spd) (v : Value) (R' : List Int), n = .int .i64 n' ∧ t = .int .i64 tm ∧ BLoop w D bb P A n' tm S v R' wr) (fun n _ _ => (intOf n).toNat)
  case atStart => exact ⟨n, 0, [], _, R3, rfl, rfl, HB.out⟩
  case round =>
    clear HB
    obtain ⟨n, tm, S, v, R', rfl, rfl, hB⟩ := hrel
    have hn5 := hB.n5
    have ht0 := hB.tm0
    have ht1 := hB.tm1
    have hln := hB.len
    obtain ⟨C, c, rfl, -, -, -⟩ := hB.own.at_
    rcases n with _ | n
    · have x0 := hB.box.c0
      have x1 := hB.box.c1
      have x2 := hB.box.c2
      have y0 := hB.res.c0
      have y1 := hB.res.c1
      have y2 := hB.res.c2
      have f0 := hB.res.frozen 0
      have f1 := hB.res.frozen 1
      have f2 := hB.res.frozen 2
      have HB := Lib.hid hB
      clear hB
      go_wp2_with fail
      refine bodyPost_ret (results_bud rfl _ _ w.heap.size rfl (P := P) (A := A) (v := .slice C S.length c) (((HB.out.res.set0 P).set1 A).set2 _)) rfl ⟨P, A, S, _, R', tm, rfl, ⟨p1, p2⟩, by omega, HB.out.made, by omega, by omega, ?_, ?_, ?_⟩
      · exact ((((HB.out.own.set_ _ _ (by simp; omega)).set_ _ _ (by simp; omega)).set_ _ _ (by simp; omega))).mono (by omega)
      · exact ((HB.out.dice.setCell _ _ (by simp; omega)).setCell _ _ (by simp; omega)).setCell _ _ (by simp; omega)
      · exact grown_set (grown_set (grown_set HB.out.grew _ _ (by simp)) _ _ (by simp)) _ _ (by simp)
    · have HB := Lib.hid hB
      have hdc := hB.dice
      clear hB
      go_wp2_with fail
      refine (next_any D R' 6 _ hdc (by omega)).mono ?_
      rintro e w5 ⟨rfl, hD5, hg5⟩
      obtain ⟨m1, m2⟩ := nextV_range R' 6 (by omega)
      generalize nextV R' 6 = d at *
      have hB5 := HB.out.next hDl (by omega) (d := d) ⟨m1, by omega⟩ hD5 hg5
      generalize R'.tail = R5 at *
      obtain ⟨tn, htn⟩ : ∃ tn, tn = tm + d := ⟨_, rfl⟩
      have ht0' : 0 ≤ tn := by omega
      have ht1' : tn ≤ 25 := by omega
      rw [← htn] at hB5
      have hwr : IntKind.i64.wrap (tm + d) = tn := by rw [htn]; exact IntWalk.i64_in _ (by omega)
      have HB5 := Lib.hid hB5
      have x2 := hB5.box.c2
      have hbx := blk_lt hB5.box
      obtain ⟨Cx, cx, ec, hC5, -, -⟩ := hB5.own.at_
      injection ec with ec1 ec2 ec3
      subst ec1; subst ec3
      have HC5 := Lib.hid hC5
      have hrg : ∀ k, k ≤ S.length → 0 ≤ sumK (perT P tn) S k ∧ sumK (perT P tn) S k ≤ 1073741824 * k := fun k hk => sumK_range2 (perT P tn) k (fun j hj => by have := (hB5.made.rows j (by omega)).2.2.2; omega)
      have HRG := Lib.hid hrg
      clear hrg
      have HTI := Lib.hid (RowOK.times hB5.made.rows)
      have HCH := Lib.hid (RowOK.cheap hB5.made.rows)
      clear hB5 HB hdc hD5 hg5 hC5 htn
      go_wp2_with fail
      clear hwr
      go_loopw [29, 6] (fun i s wr => ∃ k : Nat, k ≤ S.length ∧ i = .int .i64 k ∧ s = .int .i64 (sumK (perT P tn) S k) ∧ Below w5.heap.size w5 wr) (fun i _ _ => S.length - (intOf i).toNat)
      case atStart => exact ⟨0, Nat.zero_le _, rfl, rfl, Below.refl _ _⟩
      case round =>
        obtain ⟨k, hk, rfl, rfl, hbr⟩ := hrel
        have hr := HRG.out k hk
        have x0 := (HB5.out.box.below hbr).c0
        by_cases hlt : k < S.length
        · obtain ⟨b, off, rfl, hbl, e0, e1⟩ := HC5.out.below hbr k hlt
          have hti := HTI.out k hlt
          have hch := HCH.out k hlt
          obtain ⟨u1, u2⟩ := hti
          obtain ⟨u3, u4⟩ := hch
          have q1 : (tS S k).tdiv P = tS S k / P := Int.tdiv_eq_ediv_of_nonneg u1
          have q2 : tn.tdiv P = tn / P := Int.tdiv_eq_ediv_of_nonneg ht0'
          have c1 := Int.ediv_nonneg u1 (show 0 ≤ P by omega)
          have c2 := Int.ediv_le_self P u1
          have c3 := Int.ediv_nonneg ht0' (show 0 ≤ P by omega)
          have c4 := Int.ediv_le_self P ht0'
          have v1 : IntKind.i64.wrap (tS S k / P) = tS S k / P := IntWalk.i64_in _ (by omega)
          have v2 : IntKind.i64.wrap (tn / P) = tn / P := IntWalk.i64_in _ (by omega)
          have v3 : IntKind.i64.wrap (sumK (perT P tn) S k + cS S k) = sumK (perT P tn) S k + cS S k := IntWalk.i64_in _ (by omega)
          have hbrs := hbr.size
          go_wp2_with fail
          refine gen_world fun w6 hw6 => ?_
          have hb6 : Below wr.heap.size wr w6 := by rw [hw6]; exact below_alloc _ _
          obtain ⟨g0, g1⟩ : w6.cell? ⟨wr.heap.size, 0, none⟩ = some (.int .i64 (tS S k)) ∧ w6.cell? ⟨wr.heap.size, 1, none⟩ = some (.int .i64 (cS S k)) := by rw [hw6]; exact pair_cells _ _ _
          have x06 := (hb6.cell (p := ⟨bb, 0, none⟩) (by simp; omega)).trans x0
          have hb56 : Below w5.heap.size w5 w6 := hbr.trans (hb6.mono hbrs)
          clear hw6 e0 e1 x0
          by_cases hq : tS S k / P = tn / P
          · have HV := Lib.hid (show addT (perT P tn) (S.getD k (0, 0)) = cS S k from addT_yes (by unfold perT; exact decide_eq_true hq))
            have hqb : (tS S k / P == tn / P) = true := by simp [hq]
            clear hq
            go_quiet (fail)
            go_wp2_with fail
            go_roundw
            case rel => exact ⟨k + 1, by omega, by go_num, by rw [sumK_succ, HV.out], below_drewN hb56 _⟩
            case measure => simp [intOf]; omega
          · have HV := Lib.hid (show addT (perT P tn) (S.getD k (0, 0)) = 0 from addT_no (by unfold perT; exact decide_eq_false hq))
            have hqb : (tS S k / P == tn / P) = false := by simp [hq]
            clear hq
            go_quiet (fail)
            go_wp2_with fail
            go_roundw
            case rel => exact ⟨k + 1, by omega, by go_num, by rw [sumK_succ, HV.out, Int.add_zero], below_drewN hb56 _⟩
            case measure => simp [intOf]; omega
        · have hke : sumK (perT P tn) S k = used P S tn := by rw [show k = S.length by omega]; rfl
          rw [hke] at hr ⊢
          have hB6 := HB5.out.below hbr
          have hd6 := hB6.dice
          have HB6 := Lib.hid hB6
          clear hB6 hke x0
          go_wp2_with fail
          refine (next_any D R5 2 _ hd6 (by omega)).mono ?_
          rintro e w7 ⟨rfl, hD7, hg7⟩
          obtain ⟨m3, m4⟩ := nextV_range R5 2 (by omega)
          generalize nextV R5 2 = d2 at *
          have hB7 := HB6.out.dice2 hDl (by omega) hD7 hg7
          have x1 := hB7.box.c1
          have HB7 := Lib.hid hB7
          have hln7 := hB7.len
          clear hB7 HB6 hd6 hD7 hg7 HB5
          generalize R5.tail = R7 at *
          obtain ⟨c7, hc7⟩ : ∃ c7, c7 = 1 + d2 := ⟨_, rfl⟩
          have hwc : IntKind.i64.wrap (1 + d2) = c7 := by rw [hc7]; exact IntWalk.i64_in _ (by omega)
          have hc71 : 1 ≤ c7 := by omega
          have hc72 : c7 ≤ 2 := by omega
          clear hc7 m3 m4
          have hrr : used P S tn ≤ 1073741824 * 5 := by omega
          by_cases hu : used P S tn + c7 ≤ A
          · have x2' := HB7.out.box.c2
            have hb7s := blk_lt HB7.out.box
            go_wp2_with (first | (at_builtin; refine app_spends rfl (.tmp 58) (.tmp 62) rfl (base := bb + 1) (S := S) (T := [(tn, c7)]) (v := .slice C S.length c) (b := w7.heap.size) (off := 0) (c := 1) rfl (HB7.out.own.below (below_alloc _ _)) rfl (one_at _ _ _) (by simp; omega) (by simp; omega) ?_; intro v8 w8 hown8 hg8 hb8; obtain ⟨C8, c8, ev, -, -, -⟩ := hown8.at_; rw [show (S ++ [(tn, c7)]).length = S.length + 1 by simp] at ev; subst ev; have hB8 := HB7.out.app hDl (by omega) (by omega) ⟨hc71, by omega⟩ hu hg8 hown8; have z2 := hB8.1.c2; have z3 := hB8.1.frozen 2; have HB8 := Lib.hid hB8.2; clear hB8 hown8 hg8 hb8) | fail)
            go_roundw
            case rel => exact ⟨n, tn, S ++ [(tn, c7)], _, R7, by go_num, rfl, HB8.out⟩
            case measure => simp [intOf]
          · go_wp2_with fail
            go_roundw
            case rel => exact ⟨n, tn, S, _, R7, by go_num, rfl, HB7.out⟩
            case measure => simp [intOf]
end Go.Proofs.Ytmnkgfimdlhhiaa
namespace Go.Proofs.Ytmnkgfimdlhhiaa
open Go.RowKit

theorem grown_lowE {w0 w w' : World} {D : Nat} (h : w0.grownBy w (some D)) (hb : Below w0.heap.size w w') : w0.grownBy w' (some D) :=
  ⟨hb.os.trans h.os, hb.tape.trans h.tape, hb.output.trans h.output, Nat.le_trans h.size hb.size, fun k hk hne => (hb.block k hk).trans (h.block k hk hne)⟩
/-- Contents made by dice. -/
def ConP (D : Nat) (most : Nat) (w : World) (e : Ending) (w' : World) : Prop :=
  ∃ (v : Value) (L : List Spd) (R' : List Int), e = .returned v ∧ ElOwn elC 65 w' w.heap.size v L ∧ Depts L 4 ∧ L.length ≤ most ∧ DiceAt w' D R' ∧ w.grownBy w' (some D)
theorem Depts.nil (n : Nat) : Depts [] n := fun x hx => (by cases hx)
theorem Depts.snoc {L : List Spd} {n : Nat} {x : Spd} (h : Depts L n) (hx : 0 ≤ x.2 ∧ x.2 < (n : Int)) : Depts (L ++ [x]) n := fun y hy => by
  rcases List.mem_append.1 hy with h1 | h1
  · exact h y h1
  · have : y = x := by simpa using h1
    subst this; exact hx
set_option maxRecDepth 100000 in
set_option maxHeartbeats 2000000 in
theorem contents_any (D : Nat) (R : List Int) (most : Nat) (w : World) (h : DiceAt w D R) (hm : most ≤ 1000) :
    Calls Try.prog 25 #[.pointer (some ⟨D, 0, none⟩), .int .i64 (most : Int)] w (ConP D most w) := by
  have hDl := h.lt
  have HD := Lib.hid h
  clear h
  have hm2 : (most : Int) + 1 ≤ 4611686018427387904 := by omega
  go_enter Try.func25, Try.ntmps25
  go_wp2_with fail
  refine (next_any D R ((most : Int) + 1) _ HD.out hm2).mono ?_
  rintro e w1 ⟨rfl, hD1, hg1⟩
  obtain ⟨m1, m2⟩ := nextV_range R ((most : Int) + 1) (by omega)
  generalize nextV R ((most : Int) + 1) = m at *
  obtain ⟨m, rfl⟩ := Int.eq_ofNat_of_zero_le m1
  have hmm : m ≤ most := by omega
  have HD1 := Lib.hid hD1
  have HG1 := Lib.hid hg1
  clear hD1 hg1 HD m1 m2 hm2
  go_wp2_with fail
  go_loopw [6, 5] (fun n l wr => ∃ (m' : Nat) (L : List Spd) (R' : List Int), n = .int .i64 m' ∧ ElOwn elC 65 wr w.heap.size l L ∧ Depts L 4 ∧ L.length + m' ≤ most ∧ DiceAt wr D R' ∧ w.grownBy wr (some D)) (fun n _ _ => (intOf n).toNat)
  case atStart => exact ⟨m, [], _, rfl, ElOwn.nil _ _ _ _, Depts.nil 4, (by simp; omega), HD1.out, HG1.out⟩
  case round =>
    obtain ⟨n, L, R', rfl, hown, hdep, hlen, hD, hg⟩ := hrel
    obtain ⟨U, uc, rfl, -, -, -, -, -⟩ := hown.at_
    have HOW := Lib.hid hown
    have HDE := Lib.hid hdep
    have HDD := Lib.hid hD
    have HG := Lib.hid hg
    clear hown hdep hD hg
    rcases n with _ | n
    · go_wp2_with fail
      go_ret
      exact ⟨_, L, R', rfl, HOW.out, HDE.out, by omega, HDD.out, HG.out⟩
    · have hn1 : (0 : Int) < ((n + 1 : Nat) : Int) := by omega
      go_wp2_with fail
      refine (next_any D R' 4 _ HDD.out (by omega)).mono ?_
      rintro e w2 ⟨rfl, hD2, hg2⟩
      obtain ⟨d1, d2⟩ := nextV_range R' 4 (by omega)
      generalize nextV R' 4 = d at *
      have HOW2 := Lib.hid (HOW.out.grown hg2 hDl)
      have HD2 := Lib.hid hD2
      have HG2 := Lib.hid (grown_trans HG.out hg2)
      have hs2 := hg2.size
      have hs0 := HG2.out.size
      have hL : L.length ≤ 1000 := by omega
      clear hD2 hg2 HOW HDD HG hn1
      go_wp2_with (at_builtin; refine app_el elC Try.underlying48 info_con rfl rfl (.tmp 15) (.tmp 22) rfl (base := w.heap.size) (S := L) ((L.length : Int), d) rfl rfl HOW2.out rfl (by omega) (by decide) hs0 ?_; intro v3 w3 hown3 hg3 hb3; clear HOW2)
      go_roundw
      case rel =>
        exact ⟨n, L ++ [((L.length : Int), d)], _, by go_num, hown3, HDE.out.snoc ⟨d1, d2⟩, by simp; omega, HD2.out.keep (fun x hx => hb3.block x (by omega)), grown_lowE HG2.out hb3⟩
      case measure => simp [intOf]

def NoiseP (D : Nat) (w : World) (e : Ending) (w' : World) : Prop := ∃ (T A B : Int) (R : List Int), e = .returned (nz T A B) ∧ Good T A B ∧ DiceAt w' D R ∧ w.grownBy w' (some D)
theorem pick4 {k : Nat} (h : k < 4) : 1 ≤ nth [3, 1, 6, 24] k ∧ nth [3, 1, 6, 24] k ≤ 24 := by
  have : k = 0 ∨ k = 1 ∨ k = 2 ∨ k = 3 := by omega
  rcases this with rfl | rfl | rfl | rfl <;> decide
set_option maxHeartbeats 400000 in
theorem pnoise_any (D : Nat) (R : List Int) (w : World) (h : DiceAt w D R) :
    Calls Try.prog 29 #[.pointer (some ⟨D, 0, none⟩)] w (NoiseP D w) := by
  have hDlt := h.lt
  go_enter Try.func29, Try.ntmps29
  go_wp2_with fail
  refine (next_any D R 3 _ (h.alloc _) (by omega)).mono ?_
  rintro e w1 ⟨rfl, hD1, hg1⟩
  obtain ⟨x1, x2⟩ := nextV_range R 3 (by omega)
  generalize nextV R 3 = x at *
  go_wp2_with fail
  refine (of_any D R.tail _ [3, 1, 6, 24] 4 _ (hD1.alloc _) (lit_ints w1 [3, 1, 6, 24]) (fun b off e => ?_) (by simp) (by simp)).mono ?_
  · have := hD1.lt
    injection e with e; injection e with e1; omega
  rintro e w2 ⟨kk, hkk, rfl, hD2, hg2⟩
  obtain ⟨t1, t2⟩ := pick4 (k := kk) hkk
  generalize nth [3, 1, 6, 24] kk = T at *
  go_wp2_with fail
  refine (next_any D R.tail.tail _ _ hD2 (by omega)).mono ?_
  rintro e w3 ⟨rfl, hD3, hg3⟩
  obtain ⟨z1, z2⟩ := nextV_range R.tail.tail (2 + x - 1) (by omega)
  generalize nextV R.tail.tail (2 + x - 1) = z at *
  have hg13 : w.grownBy w3 (some D) := grown_trans (grown_trans (grown_trans (grown_of_below (below_alloc w _)) hg1) (grown_of_below (below_alloc w1 _))) (grown_trans hg2 hg3)
  have hk : w3.heap[w.heap.size]? = some (.cells #[.int .i64 0, .int .i64 0, .int .i64 0] 47 (0, 0)) := by
    have s1 : w.heap.size < w1.heap.size := Nat.lt_of_lt_of_le (by simp) hg1.size
    have s2 : w1.heap.size < w2.heap.size := Nat.lt_of_lt_of_le (by simp) hg2.size
    have hne : some w.heap.size ≠ some D := fun e => by injection e with e; omega
    rw [hg3.block _ (by omega) hne, hg2.block _ (by simp; omega) hne, Below.heap_alloc _ _ _ s1, hg1.block _ (by simp) hne]
    exact heap_alloc_new w _
  have k0 := cell_of_row w3 w.heap.size 0 _ _ (0, 0) hk
  have k1 := cell_of_row w3 w.heap.size 1 _ _ (0, 0) hk
  have k2 := cell_of_row w3 w.heap.size 2 _ _ (0, 0) hk
  have f0 : w3.frozen? ⟨w.heap.size, 0, none⟩ = false := by simp [World.frozen?, hk]
  have f1 : w3.frozen? ⟨w.heap.size, 1, none⟩ = false := by simp [World.frozen?, hk]
  have f2 : w3.frozen? ⟨w.heap.size, 2, none⟩ = false := by simp [World.frozen?, hk]
  simp at k0 k1 k2
  have HH := Lib.hid (And.intro hD3 hg13)
  clear hD3 hg13 hk hg1 hg2 hg3 hD1 hD2 h
  go_wp2_with fail
  have HF : Hid (NoiseP D w (.returned (nz T (1 + z) (2 + x))) (((w3.setCell ⟨w.heap.size, 0, none⟩ (.int .i64 T)).setCell ⟨w.heap.size, 1, none⟩ (.int .i64 (1 + z))).setCell ⟨w.heap.size, 2, none⟩ (.int .i64 (2 + x)))) :=
    ⟨T, 1 + z, 2 + x, _, rfl, by unfold Good; omega, ((HH.out.1.setCell _ _ hDlt).setCell _ _ hDlt).setCell _ _ hDlt, grown_set (grown_set (grown_set HH.out.2 _ _ (Nat.le_refl _)) _ _ (Nat.le_refl _)) _ _ (Nat.le_refl _)⟩
  exact bodyPost_ret (v := nz T (1 + z) (2 + x)) (by simp [results, Try.results29, go_sem, k0, k1, k2]) rfl HF.out


def OneP (D : Nat) (R : List Int) (w : World) (e : Ending) (w' : World) : Prop := ∃ q : Bool, e = .returned (.bool q) ∧ DiceAt w' D R.tail ∧ w.grownBy w' (some D)
set_option maxHeartbeats 400000 in
theorem one_any (D : Nat) (R : List Int) (n : Int) (w : World) (h : DiceAt w D R) (hn : 1 ≤ n ∧ n ≤ 1000) :
    Calls Try.prog 35 #[.pointer (some ⟨D, 0, none⟩), .int .i64 n] w (OneP D R w) := by
  obtain ⟨n1, n2⟩ := hn
  go_enter Try.func35, Try.ntmps35
  go_wp2_with fail
  refine (next_any D R n _ h (by omega)).mono ?_
  rintro e w1 ⟨rfl, hD1, hg⟩
  have HH := Lib.hid (And.intro hD1 hg)
  clear hD1 hg h
  go_wp2_with fail
  go_ret
  exact ⟨_, rfl, HH.out⟩
end Go.Proofs.Ytmnkgfimdlhhiaa
namespace Go.Proofs.Ytmnkgfimdlhhiaa
open Go.RowKit

theorem ElAt.lits {α : Type} (E : El α) (w : World) (L : List α) (ty : TypeId) : ElAt E (w.alloc (.cells (E.flat L).toArray ty)) (some ⟨w.heap.size, 0, none⟩) L := fun k x hk => by
  refine ⟨_, _, rfl, by simp, fun j hj => ?_⟩
  have h := heap_alloc_new w (.cells (E.flat L).toArray ty)
  rw [Nat.zero_add, cell_of_row _ _ (k * E.n + j) _ _ (0, 0) h]
  have := E.flat_at L k x hk j hj
  simpa using this
theorem one_rowE {t c : Int} (k : Nat) (hk : k < [((t, c) : Spd)].length) : k = 0 := by simpa using hk
theorem aw39G : Good 4 1 2 := by unfold Good; omega
theorem aw39B0 : BudOK 5 1 [] := ⟨⟨by decide, by decide, by decide, by decide, by decide⟩, fun k hk => absurd hk (by simp), fun k hk => absurd hk (by simp)⟩
theorem aw39B1 : BudOK 5 1 [(2, 1)] := ⟨⟨by decide, by decide, by decide, by decide, by decide⟩,
  fun k hk => by rw [one_rowE k hk]; exact ⟨by decide, by decide, fun h => absurd h (by omega), by decide, by decide⟩, fun k hk => by rw [one_rowE k hk]; decide +kernel⟩
theorem aw39O : PbOK 4 1 2 [3] [0] := by decide +kernel
theorem aw39E1 : pbE 4 1 2 5 1 [] 2 [3] [0] = 0 := by
  rw [pbE_spend aw39G aw39O]
  exact (spE_good aw39B0 ⟨by decide, by decide, fun h => absurd h (by simp)⟩ (by decide) (by decide +kernel) (by decide)).symm
theorem aw39E2 : pbE 4 1 2 5 1 [(2, 1)] 3 [3] [0] = 56 := by
  rw [pbE_spend aw39G aw39O]
  exact (spE_left aw39B1 ⟨by decide, by decide, fun _ => by decide⟩ (by decide) (by decide +kernel)).symm
theorem aw39L : lnK 4 1 2 [(0, 3), (0, 3)] [3] [0] 1 = [(3, 0)] := by decide +kernel
theorem aw39W : wgL 4 1 2 [(0, 3), (0, 3)] [(3, 0)] = [8] ∧ wgE 4 1 2 [(3, 0)] = 0 := by decide +kernel
theorem aw39C : cntD 3 [(0, 3), (0, 3)] = 2 := by decide +kernel
theorem pub_aw1 (C X Y : Option Addr) (c cx cy : Nat) (W : World) (hL : ElAt elC W C [(0, 3), (0, 3)]) (hX : IntsAt W X [3]) (hY : IntsAt W Y [0]) :
    Calls Try.prog 26 #[nz 4 1 2, .agg #[.int .i64 5, .int .i64 1, .slice none 0 0], .int .i64 2, .slice C 2 c, .slice X 1 cx, .slice Y 1 cy] W (PubP 5 1 2 [(3, 0)] [(2, 1)] 0 W) := by
  have h := publish_any 4 1 2 5 1 none [] 0 2 C [(0, 3), (0, 3)] c X [3] cx Y [0] cy W (SpAt.nil _ _) (fun a e => by cases e) (fun _ => ⟨rfl, rfl⟩) (by simp) (by omega) hL (by simp) hX (by simp) hY (by simp)
  unfold PubQ pbT pbL pbS at h
  rw [aw39E1, if_pos rfl, if_pos rfl, if_pos rfl] at h
  rw [show lnK 4 1 2 [(0, 3), (0, 3)] [3] [0] ([3] : List Int).length = [(3, 0)] from aw39L] at h
  exact h
theorem pub_aw2 (Q C X Y : Option Addr) (cq c cx cy : Nat) (W : World) (hS : SpAt W Q [(2, 1)]) (hQ : ∀ a, Q = some a → a.spot = none ∨ ([(2, 1)] : List Spd).length = 0) (hN : Q = none → ([(2, 1)] : List Spd).length = 0 ∧ cq = 0) (hL : ElAt elC W C [(0, 3), (0, 3)]) (hX : IntsAt W X [3]) (hY : IntsAt W Y [0]) :
    Calls Try.prog 26 #[nz 4 1 2, .agg #[.int .i64 5, .int .i64 1, .slice Q 1 cq], .int .i64 3, .slice C 2 c, .slice X 1 cx, .slice Y 1 cy] W (PubP 5 1 0 [] [(2, 1)] 56 W) := by
  have h := publish_any 4 1 2 5 1 Q [(2, 1)] cq 3 C [(0, 3), (0, 3)] c X [3] cx Y [0] cy W hS hQ hN (by simp) (by omega) hL (by simp) hX (by simp) hY (by simp)
  unfold PubQ pbT pbL pbS at h
  rw [aw39E2, if_neg (by decide), if_neg (by decide), if_neg (by decide)] at h
  exact h
theorem weigh_aw (C U : Option Addr) (c cu : Nat) (W : World) (hL : ElAt elC W C [(0, 3), (0, 3)]) (hU : ElAt elL W U [(3, 0)]) :
    Calls Try.prog 27 #[nz 4 1 2, .slice C 2 c, .agg #[.int .i64 2, .slice U 1 cu]] W (fun e w' => ∃ b off c', e = .returned (.tuple #[.slice (some ⟨b, off, none⟩) 1 c', .int .i64 0]) ∧ b < w'.heap.size ∧ w'.cell? ⟨b, off, none⟩ = some (.int .i64 8) ∧ Below W.heap.size W w') := by
  refine (weigh_any 4 1 2 C [(0, 3), (0, 3)] c 2 U [(3, 0)] cu W hL (by simp) hU (by simp)).mono ?_
  rintro e w' ⟨u, rfl, hown, hb⟩
  rw [aw39W.2]
  rw [aw39W.1] at hown
  obtain ⟨A', c', rfl, hI⟩ := IntsAt.of_own hown rfl
  obtain ⟨b, off, rfl, hlt, hc⟩ := hI 0 (by simp)
  exact ⟨b, off, c', rfl, hlt, hc, hb⟩
theorem PubP.open_ {P Am tm : Int} {Ls S : List Spd} {E : Int} {w : World} {e : Ending} {w' : World} (h : PubP P Am tm Ls S E w e w') :
    ∃ U uc V vc, e = .returned (.tuple #[.agg #[.int .i64 tm, .slice U Ls.length uc], .agg #[.int .i64 P, .int .i64 Am, .slice V S.length vc], .int .i64 E]) ∧ ElOwn elL 74 w' w.heap.size (.slice U Ls.length uc) Ls ∧ SpOwn w' w.heap.size (.slice V S.length vc) S ∧ ElAt elL w' U Ls ∧ SpAt w' V S ∧ Below w.heap.size w w' := by
  obtain ⟨u, v, rfl, h1, h2, h3⟩ := h
  obtain ⟨U, uc, rfl, a1, -⟩ := h1.at_
  obtain ⟨V, vc, rfl, a2, -⟩ := h2.at_
  exact ⟨U, uc, V, vc, rfl, h1, h2, a1, a2, h3⟩
theorem gen_calls {P : Program} {f : FuncId} {args : Array Value} {W : World} {R : Ending → World → Prop} (h : ∀ W1, W1 = W → Calls P f args W1 R) : Calls P f args W R := h W rfl
theorem lit_at {w : World} {i : Nat} (x : Int) (h : i = w.heap.size) : IntsAt (w.alloc (.cells #[.int .i64 x] 3)) (some ⟨i, 0, none⟩) [x] := by subst h; exact lit_ints w [x]
set_option maxRecDepth 100000 in
set_option maxHeartbeats 4000000 in
theorem awake39 (w : World) : Calls Try.prog 24 #[] w (RetB (.bool true) w) := by
  go_enter Try.func24, Try.ntmps24
  go_wp2_with fail
  refine gen_calls fun W hW => ?_
  have hL : ElAt elC W (some ⟨w.heap.size, 0, none⟩) [(0, 3), (0, 3)] := by rw [hW]; exact (((ElAt.lits elC w [(0, 3), (0, 3)] 65).alloc _).alloc _).alloc _
  have hN : NzCell W (w.heap.size + 1) 4 1 2 := by rw [hW]; exact ((NzCell.new _ _ _ (by simp)).alloc _).alloc _
  have hX : IntsAt W (some ⟨w.heap.size + 1 + 1, 0, none⟩) [3] := by rw [hW]; exact (lit_at 3 (by simp)).below (below_alloc _ _)
  have hY : IntsAt W (some ⟨w.heap.size + 1 + 1 + 1, 0, none⟩) [0] := by rw [hW]; exact lit_at 0 (by simp)
  have hbW : Below w.heap.size w W := by rw [hW]; exact (((below_alloc _ _).alloc (by simp) _).alloc (by simp; omega) _).alloc (by simp; omega) _
  clear hW
  refine (pub_aw1 _ _ _ 2 1 1 _ hL hX hY).mono ?_
  intro e w1 hr
  obtain ⟨U, uc, V, vc, rfl, -, hv, hU, hV, hb1⟩ := hr.open_
  replace hN := hN.below hb1
  have HL := Lib.hid (hL.below hb1)
  have HU := Lib.hid hU
  have HV := Lib.hid hV
  have HQ := Lib.hid (And.intro hv.spotE hv.nilcapE)
  have hbw : Below w.heap.size w w1 := hbW.trans (hb1.mono hbW.size)
  have n0 := hN.c0
  have n1 := hN.c1
  have n2 := hN.c2
  have lN := hN.lt
  have l0 : w.heap.size < w1.heap.size := by omega
  have HN := Lib.hid hN
  clear hr hL hX hY hbW hU hV hv hb1 hN
  go_wp2_with fail
  refine gen_calls fun W hW => ?_
  have hX : IntsAt W (some ⟨w1.heap.size + 1 + 1, 0, none⟩) [3] := by rw [hW]; exact (lit_at 3 (by simp)).below (below_alloc _ _)
  have hY : IntsAt W (some ⟨w1.heap.size + 1 + 1 + 1, 0, none⟩) [0] := by rw [hW]; exact lit_at 0 (by simp)
  have hbW : Below w1.heap.size w1 W := by rw [hW]; exact (((below_alloc _ _).alloc (by simp) _).alloc (by simp; omega) _).alloc (by simp; omega) _
  have hT : TabCell W w1.heap.size 2 (.slice U 1 uc) := by rw [hW]; exact ((((TabCell.new _ _ rfl).below (below_alloc _ _)).below (below_alloc _ _)).below (below_alloc _ _))
  clear hW
  refine (pub_aw2 _ _ _ _ _ _ 1 1 _ (HV.out.below hbW) HQ.out.1 HQ.out.2 (HL.out.below hbW) hX hY).mono ?_
  intro e w2 hr
  obtain ⟨U2, uc2, V2, vc2, rfl, -, -, -, -, hb2⟩ := hr.open_
  have hb12 := hbW.trans (hb2.mono hbW.size)
  replace hT := hT.below hb2
  have hN := HN.out.below hb12
  have HL2 := Lib.hid (HL.out.below hb12)
  have HU2 := Lib.hid (HU.out.below hb12)
  have hbw2 : Below w.heap.size w w2 := hbw.trans (hb12.mono hbw.size)
  clear n0 n1 n2 lN hr hX hY hbW HN HL HU HV hb2 hb12
  have n0 := hN.c0
  have n1 := hN.c1
  have n2 := hN.c2
  have lN := hN.lt
  have l02 : w.heap.size < w2.heap.size := by omega
  have t0 := hT.c0
  have t1 := hT.c1
  have lT := hT.lt
  have HT := Lib.hid hT
  clear hN hT
  go_wp2_with fail
  refine gen_calls fun W hW => ?_
  have hbW : Below w2.heap.size w2 W := by rw [hW]; exact (below_alloc _ _).alloc (by simp) _
  clear hW
  refine (weigh_aw _ _ 2 uc _ (HL2.out.below hbW) (HU2.out.below hbW)).mono ?_
  rintro e w3 ⟨b, off, c', rfl, hlt, hc, hb3⟩
  have hb23 := hbW.trans (hb3.mono hbW.size)
  have HT3 := Lib.hid (HT.out.below hb23)
  have HL3 := Lib.hid (HL2.out.below hb23)
  have HU3 := Lib.hid (HU2.out.below hb23)
  have hbw3 : Below w.heap.size w w3 := hbw2.trans (hb23.mono hbw2.size)
  clear n0 n1 n2 lN t0 t1 lT HT HL2 HU2 hbW hb3 hb23 hbw hbw2
  have t0 := HT3.out.c0
  have t1 := HT3.out.c1
  have lT := HT3.out.lt
  have l2 := lin_cells HU3.out (k := 0) (by simp)
  obtain ⟨bu, ou, rfl, lbu, u0, u1⟩ := l2
  rw [Nat.zero_mul, Nat.add_zero] at u0 u1
  go_wp2_with fail
  have hcn := count_any _ [(0, 3), (0, 3)] 2 3 w3 HL3.out (by simp)
  rw [aw39C] at hcn
  refine ret_below hcn fun w4 hb4 => ?_
  clear hcn
  have HT4 := Lib.hid (HT3.out.below hb4)
  have HU4 := Lib.hid (HU3.out.below hb4)
  have hbw4 : Below w.heap.size w w4 := hbw3.trans (hb4.mono hbw3.size)
  have u0' := (hb4.cell (p := ⟨bu, ou, none⟩) lbu).trans u0
  have u1' := (hb4.cell (p := ⟨bu, ou + 1, none⟩) lbu).trans u1
  have hc' := (hb4.cell (p := ⟨b, off, none⟩) hlt).trans hc
  have s4 := hb4.size
  clear t0 t1 lT u0 u1 hc HT3 HU3 HL3
  have t0 := HT4.out.c0
  have t1 := HT4.out.c1
  have lT := HT4.out.lt
  have hqq : cS [((3, 0) : Spd)] 0 = 0 := rfl
  rw [hqq] at u1'
  go_wp2_with fail
  refine ret_below (sameT_any _ _ [(3, 0)] [(3, 0)] _ _ 2 2 _ HU4.out HU4.out (by simp) (by simp)) fun w5 hb5 => ?_
  go_wp2_with fail
  go_ret
  exact RetB.bool rfl (hbw4.trans (hb5.mono hbw4.size))
end Go.Proofs.Ytmnkgfimdlhhiaa
namespace Go.Proofs.Ytmnkgfimdlhhiaa
open Go.RowKit

theorem drop_rev {L : List Spd} {j : Nat} (h : j < L.length) : (L.drop (j + 1)).reverse ++ [(tS L j, cS L j)] = (L.drop j).reverse := by
  rw [List.drop_eq_getElem_cons h, List.reverse_cons]
  simp [tS, cS, List.getD_eq_getElem?_getD, h]
theorem Depts.up {L : List Spd} {n m : Nat} (h : Depts L n) (hm : n ≤ m) : Depts L m := fun x hx => by have := h x hx; omega
set_option maxRecDepth 100000 in
set_option maxHeartbeats 4000000 in
theorem statisticCounts_walk (A0 : Option Addr) (L0 : List Int) (c0 : Nat) (w : World) (hl0 : L0.length ≤ maxLen) (hI0 : IntsAt w A0 L0) (_ : ∀ n ∈ L0, -9223372036854775808 ≤ n ∧ n ≤ 9223372036854775807) :
    Calls Try.prog 9 #[.slice A0 L0.length c0] w (RetB (.bool true) w) := by
  have hL := light_any A0 L0.length c0 w
  by_cases hlight : (L0.length : Int) ≤ 500
  case neg =>
    rw [decide_eq_false hlight] at hL
    have HLt := Lib.hid hL
    clear hL hlight
    go_enter Try.func9, Try.ntmps9
    go_wp2_with fail
    refine ret_pure HLt.out ?_
    go_wp2_with fail
    refine ret_below (awake39 _) fun w1 hb1 => ?_
    go_wp2_with fail
    go_ret
    exact RetB.bool rfl hb1
  case pos =>
    rw [decide_eq_true hlight] at hL
    have HLt := Lib.hid hL
    clear hL hlight
    go_enter Try.func9, Try.ntmps9
    go_wp2_with fail
    refine ret_pure HLt.out ?_
    clear HLt
    go_wp2_with fail
    refine (roll_any A0 L0 c0 _ hl0 hI0).mono ?_
    rintro e w1 ⟨D, rfl, hDs, hD, hb1⟩
    go_wp2_with fail
    refine (contents_any D L0 12 _ hD (by omega)).mono ?_
    rintro e w2 ⟨v, L, R', rfl, hown, hdep, hlen, hD2, hg⟩
    obtain ⟨U, uc, rfl, hU, -⟩ := hown.at_
    have hbw : Below w.heap.size w w2 := hb1.trans ((grown_below hg hDs hb1.size))
    have HU := Lib.hid hU
    have HS := Lib.hid (show (sumC L 64 == (L.length : Int)) = true by rw [sumC_all 64 L (hdep.up (by omega))]; simp)
    clear hU hown hdep hD2 hg hDs hD hb1 hI0 hl0
    go_wp2_with fail
    go_loopw [6, 5] (fun i t wr => ∃ (j : Nat), j ≤ L.length ∧ i = .int .i64 ((j : Int) - 1) ∧ ElOwn elC 65 wr w2.heap.size t (L.drop j).reverse ∧ Below w2.heap.size w2 wr) (fun i _ _ => (intOf i + 1).toNat)
    case atStart => exact ⟨L.length, Nat.le_refl _, rfl, by rw [List.drop_length]; exact ElOwn.nil _ _ _ _, Below.refl _ _⟩
    case round =>
      obtain ⟨j, hj, rfl, hown, hbr⟩ := hrel
      have hbs := hbr.size
      obtain ⟨V, vc, rfl, hV, -⟩ := hown.at_
      rcases j with _ | j
      · rw [List.drop_zero] at hV
        have HV := Lib.hid hV
        have HC := Lib.hid (fun d => cntD_reverse d L)
        have hlr : (L.drop 0).reverse.length = L.length := by simp
        rw [hlr]
        have hrl : L.reverse.length = L.length := by simp
        have HCV := Lib.hid (fun (d : Int) (W : World) (hW : Below wr.heap.size wr W) => count_any V L.reverse vc d W (hV.below hW) (by omega))
        rw [hrl] at HCV
        have HCU := Lib.hid (fun (d : Int) (W : World) (hW : Below wr.heap.size wr W) => count_any U L uc d W ((HU.out.below hbr).below hW) (by omega))
        have hbw2 := hbw.trans (hbr.mono hbw.size)
        clear hown hV HV hlr hrl hbr HU hbw
        rw [show ((0 : Nat) : Int) - 1 = -1 from rfl]
        go_wp2_with fail
        go_loopw [8, 7] (fun k s w' => ∃ n : Nat, n ≤ 64 ∧ k = .int .i64 n ∧ s = .int .i64 (sumC L n) ∧ Below wr.heap.size wr w') (fun k _ _ => 64 - (intOf k).toNat)
        case atStart => exact ⟨0, Nat.zero_le _, rfl, rfl, Below.refl _ _⟩
        case round =>
          obtain ⟨n, hn, rfl, rfl, hb3⟩ := hrel
          obtain ⟨s1, s2⟩ := sumC_range L n
          obtain ⟨c1, c2⟩ := cntD_range (n : Int) L
          have hmul : (n : Int) * L.length ≤ 64 * 12 := Int.mul_le_mul (by omega) (by omega) (by omega) (by omega)
          have HSS := Lib.hid (show sumC L (n + 1) = sumC L n + cntD n L from rfl)
          have hb3s := hb3.size
          by_cases hlt : (n : Int) ≤ 63
          · have HCN := Lib.hid (HC.out (n : Int))
            have HC1 := Lib.hid (HCU.out (n : Int))
            have HC2 := Lib.hid (HCV.out (n : Int))
            generalize cntD (n : Int) L.reverse = cr at *
            generalize cntD (n : Int) L = cl at *
            obtain ⟨ss, hss⟩ : ∃ ss, ss = sumC L n := ⟨_, rfl⟩
            rw [← hss] at HSS s1 s2 ⊢
            have q1 : (cl != cr) = false := by rw [HCN.out]; simp
            have q2 : decide (cl < 0) = false := decide_eq_false (by omega)
            clear hss
            go_wp2_with fail
            refine ret_below (HC1.out _ hb3) fun w4 hb4 => ?_
            go_wp2_with fail
            refine ret_below (HC2.out _ (hb3.trans (hb4.mono hb3s))) fun w5 hb5 => ?_
            go_wp2_with fail
            go_roundw
            case rel => exact ⟨n + 1, by omega, by go_num, by rw [HSS.out], (hb3.trans (hb4.mono hb3s)).trans (hb5.mono (Nat.le_trans hb3s hb4.size))⟩
            case measure => simp [intOf]; omega
          · obtain rfl : n = 64 := by omega
            have q := HS.out
            clear HSS hmul s1 s2 c1 c2
            generalize sumC L 64 = ss at *
            go_wp2_with fail
            refine ret_below (awake39 _) fun w4 hb4 => ?_
            go_wp2_with fail
            go_ret
            exact RetB.bool rfl ((hbw2.trans (hb3.mono hbw2.size)).trans (hb4.mono (Nat.le_trans hbw2.size hb3s)))
      · have HOW := Lib.hid hown
        have HD := Lib.hid (drop_rev (L := L) (j := j) (by omega))
        have hln : (L.drop (j + 1)).reverse.length ≤ 1000 := by simp; omega
        obtain ⟨b, off, rfl, hbl, q0, q1, q2, q3, q4, q5, q6, q7, q8, q9⟩ := con_cells (HU.out.below hbr) (k := j) (by omega)
        have hj0 : (0 : Int) ≤ (j : Int) := by omega
        have hj1 : (j : Int) < (L.length : Int) := by omega
        rw [show ((j + 1 : Nat) : Int) - 1 = (j : Int) by omega]
        obtain ⟨nn, hnn⟩ : ∃ nn, nn = (L.drop (j + 1)).reverse.length := ⟨_, rfl⟩
        rw [← hnn] at HOW hln ⊢
        clear hown hV
        go_wp2_with (at_builtin; refine app_el elC Try.underlying48 info_con rfl rfl (.tmp 25) (.tmp 30) rfl (base := w2.heap.size) (S := (L.drop (j + 1)).reverse) (tS L j, cS L j) rfl rfl HOW.out rfl (by omega) (by decide) (by omega) ?_; intro v3 w3 hown3 hg3 hb3; clear HOW)
        go_roundw
        case rel => exact ⟨j, by omega, by go_num, by rw [← HD.out]; exact hown3, hbr.trans hb3⟩
        case measure => simp [intOf]
end Go.Proofs.Ytmnkgfimdlhhiaa
namespace Go.Proofs.Ytmnkgfimdlhhiaa
open Go.RowKit

theorem cell_block_lt {w : World} {a : Addr} {v : Value} (h : w.cell? a = some v) : a.block < w.heap.size := by
  rcases Nat.lt_or_ge a.block w.heap.size with hlt | hge
  · exact hlt
  · unfold World.cell? at h; simp [Array.getElem?_eq_none hge] at h
theorem open_row {W : World} {x : Addr} {len cap : Nat} {zs : List Int} (hl : len ≤ cap) (hm : cap ≤ maxLen) (hz : zs.length = cap) (hcell : ∀ i, i < zs.length → W.cell? (x.add i) = some (.int .i64 (zs.getD i 0)))
    (hb : ∀ n ∈ zs, -9223372036854775808 ≤ n ∧ n ≤ 9223372036854775807) :
    ∃ ys : List Int, ys.length = len ∧ ys.length ≤ maxLen ∧ IntsAt W (some x) ys ∧ ∀ n ∈ ys, -9223372036854775808 ≤ n ∧ n ≤ 9223372036854775807 := by
  refine ⟨zs.take len, by simp; omega, by simp; omega, fun k hk => ?_, fun n hn => hb n (List.mem_of_mem_take hn)⟩
  have hk' : k < len := by simpa using Nat.lt_of_lt_of_le hk (List.length_take_le _ _)
  have h0 := hcell 0 (by omega)
  have hk0 := hcell k (by omega)
  obtain ⟨b, off, spot⟩ := x
  have hs : spot = none := by simpa [Addr.add] using World.cell?_spot h0
  subst hs
  have hlt := cell_block_lt hk0
  refine ⟨b, off, rfl, ?_, ?_⟩
  · unfold Addr.add at hlt; split at hlt <;> exact hlt
  · have e : (⟨b, off, none⟩ : Addr).add k = ⟨b, off + k, none⟩ := by
      unfold Addr.add; split
      · rename_i h; subst h; rfl
      · rfl
    rw [← e, hk0, nth_eq hk]
    simp [List.getD_eq_getElem?_getD, show k < zs.length by omega]
end Go.Proofs.Ytmnkgfimdlhhiaa
