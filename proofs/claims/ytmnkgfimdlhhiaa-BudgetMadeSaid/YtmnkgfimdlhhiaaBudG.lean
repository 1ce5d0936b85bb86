/-
  Budgets: slices.IndexFunc and slices.DeleteFunc over spends.
-/
import Derived.Test.YtmnkgfimdlhhiaaBudF
namespace Go.Proofs.Ytmnkgfimdlhhiaa
open Go.RowKit

def IxP (T : Spd → Bool) (S : List Spd) (i : Int) : Prop := (i = -1 ∧ ∀ j, j < S.length → T (S.getD j (0, 0)) = false) ∨ ∃ k : Nat, i = k ∧ k < S.length ∧ T (S.getD k (0, 0)) = true ∧ ∀ j, j < k → T (S.getD j (0, 0)) = false
set_option maxRecDepth 100000 in
set_option maxHeartbeats 1000000 in
theorem indexFunc_any (n : Nat) (u1 u2 : Value) (T : Spd → Bool) (B : Option Addr) (S : List Spd) (cap : Nat) (w : World) (hS : SpAt w B S) (hl : S.length ≤ 100000) (hn : ∀ args w, (callFunc n args).run Try.prog w = .ok (.enter n args) w)
    (hT : ∀ w', Below w.heap.size w w' → ∀ k, k < S.length → Calls Try.prog n #[.agg #[.int .i64 (tS S k), .int .i64 (cS S k)], u1, u2] w' (RetB (.bool (T (S.getD k (0, 0)))) w')) :
    Calls Try.prog 72 #[.slice B S.length cap, .func (.func n) #[] #[u1, u2]] w (fun e w' => ∃ i : Int, e = .returned (.int .i64 i) ∧ IxP T S i ∧ Below w.heap.size w w') := by
  have HS := Lib.hid hS
  have HT := Lib.hid hT
  clear hS hT
  go_enter Try.func72, Try.ntmps72
  go_wp2_with fail
  go_loopw [8] (fun i wr => ∃ k : Nat, k ≤ S.length ∧ i = .int .i64 k ∧ (∀ j, j < k → T (S.getD j (0, 0)) = false) ∧ Below w.heap.size w wr) (fun i _ => S.length - (intOf i).toNat)
  case atStart => exact ⟨0, Nat.zero_le _, rfl, fun j hj => absurd hj (by omega), Below.refl _ _⟩
  case round =>
    obtain ⟨k, hk, rfl, hpre, hbr⟩ := hrel
    have HP := Lib.hid hpre
    clear hpre
    by_cases hlt : k < S.length
    · obtain ⟨b, off, rfl, hbl, c1, c2⟩ := HS.out k hlt
      have d1 := (hbr.cell hbl).trans c1
      have d2 := (hbr.cell hbl).trans c2
      have hbs := hbr.size
      clear c1 c2
      go_wp2_with fail
      refine ret_below (HT.out _ hbr k hlt) fun w2 hb2 => ?_
      generalize hx : T (S.getD k (0, 0)) = tv at *
      have HX := Lib.hid hx
      clear hx
      have hbw : Below w.heap.size w w2 := hbr.trans (hb2.mono hbs)
      cases tv with
      | true =>
        go_wp2_with fail
        go_ret
        exact ⟨_, rfl, .inr ⟨k, rfl, hlt, HX.out, HP.out⟩, hbw⟩
      | false =>
        go_wp2_with fail
        go_roundw
        case rel =>
          refine ⟨k + 1, by omega, by go_num, fun j hj => ?_, hbw⟩
          by_cases hjk : j = k
          · subst hjk; exact HX.out
          · exact HP.out j (by omega)
        case measure => simp [intOf]; omega
    · go_wp2_with fail
      go_ret
      exact ⟨_, rfl, .inl ⟨rfl, fun j hj => HP.out j (by omega)⟩, hbr⟩

/-! ### What DeleteFunc keeps -/
theorem flat_set : ∀ (L : List Spd) (i : Nat) (t x : Int), i < L.length → ((flat L).set (i * 2) (.int .i64 t)).set (i * 2 + 1) (.int .i64 x) = flat (L.set i (t, x))
  | [], i, _, _, h => absurd h (by simp)
  | y :: L, 0, t, x, _ => rfl
  | y :: L, i + 1, t, x, h => by
    rw [show (i + 1) * 2 = i * 2 + 1 + 1 by omega]
    simp only [flat, List.set_cons_succ]
    rw [flat_set L i t x (by simpa using h)]
theorem SpOwn.set2 {w : World} {base g c : Nat} {L : List Spd} (h : SpOwn w base (.slice (some ⟨g, 0, none⟩) L.length c) L) (i : Nat) (hi : i < L.length) (t x : Int) :
    SpOwn ((w.setCell ⟨g, i * 2, none⟩ (.int .i64 t)).setCell ⟨g, i * 2 + 1, none⟩ (.int .i64 x)) base (.slice (some ⟨g, 0, none⟩) L.length c) (L.set i (t, x)) := by
  rcases h.2 with ⟨h0, _⟩ | ⟨g', cap, cur, hv, hg, hh, hnc, hcm, hcs, htk⟩
  · cases h0
  · injection hv with h1 h2 h3
    injection h1 with h1
    injection h1 with h1
    subst h1; subst h3
    refine ⟨flat_len _, .inr ⟨g, c, (cur.setIfInBounds (i * 2) (.int .i64 t)).setIfInBounds (i * 2 + 1) (.int .i64 x), by simp, hg, ?_, by simpa using hnc, hcm, by simpa using hcs, ?_⟩⟩
    · simp [World.setCell, Array.getElem?_modify, hh]
    · rw [← flat_set L i t x hi, ← htk]
      simp only [Array.toList_setIfInBounds, List.length_set]
      rw [List.take_set, List.take_set]
theorem SpOwn.slot {w : World} {base g c : Nat} {L : List Spd} (h : SpOwn w base (.slice (some ⟨g, 0, none⟩) L.length c) L) (i : Nat) (hi : i < L.length) :
    g < w.heap.size ∧ base ≤ g ∧ w.cell? ⟨g, i * 2, none⟩ = some (.int .i64 (tS L i)) ∧ w.cell? ⟨g, i * 2 + 1, none⟩ = some (.int .i64 (cS L i)) ∧ ∀ j, w.frozen? ⟨g, j, none⟩ = false := by
  obtain ⟨A, c', e, hA, -, hb⟩ := h.at_
  injection e with e1 e2 e3
  subst e1
  obtain ⟨b, off, e, hbl, q1, q2⟩ := hA i hi
  injection e with e
  injection e with e1 e2
  subst e1; subst e2
  rw [Nat.zero_add] at q1 q2
  refine ⟨hbl, (hb _ _ rfl).1, q1, q2, fun j => ?_⟩
  rcases h.2 with ⟨h0, _⟩ | ⟨g', cap, cur, hv, hg, hh, _⟩
  · cases h0
  · injection hv with h1
    injection h1 with h1
    injection h1 with h1
    subst h1
    simp [World.frozen?, hh]
def keepL (T : Spd → Bool) (S : List Spd) (j : Nat) : List Spd := (S.take j).filter fun y => !T y
theorem keepL_succ {T : Spd → Bool} {S : List Spd} {j : Nat} (hj : j < S.length) : keepL T S (j + 1) = keepL T S j ++ if T (S.getD j (0, 0)) then [] else [S.getD j (0, 0)] := by
  have e : S.take (j + 1) = S.take j ++ [S.getD j (0, 0)] := by
    rw [List.take_succ_eq_append_getElem hj]; simp [List.getD_eq_getElem?_getD, hj]
  unfold keepL
  rw [e, List.filter_append]
  congr 1
  generalize S.getD j (0, 0) = y
  cases h : T y <;> simp [h]
theorem keepL_del {T : Spd → Bool} {S : List Spd} {j : Nat} (hj : j < S.length) (h : T (S.getD j (0, 0)) = true) : keepL T S (j + 1) = keepL T S j := by
  rw [keepL_succ hj, h]; simp
theorem keepL_keep {T : Spd → Bool} {S : List Spd} {j : Nat} (hj : j < S.length) (h : T (S.getD j (0, 0)) = false) : keepL T S (j + 1) = keepL T S j ++ [S.getD j (0, 0)] := by
  rw [keepL_succ hj, h]; rfl
theorem keepL_all {T : Spd → Bool} {S : List Spd} : ∀ k, k ≤ S.length → (∀ j, j < k → T (S.getD j (0, 0)) = false) → keepL T S k = S.take k
  | 0, _, _ => by simp [keepL]
  | k + 1, hk, h => by
    rw [keepL_keep (by omega) (h k (by omega)), keepL_all k (by omega) (fun j hj => h j (by omega)), List.take_succ_eq_append_getElem (show k < S.length by omega)]
    simp [List.getD_eq_getElem?_getD, show k < S.length by omega]
theorem keepL_end (T : Spd → Bool) (S : List Spd) : keepL T S S.length = S.filter fun y => !T y := by unfold keepL; rw [List.take_length]
/-- The loop of DeleteFunc, under way: i entries kept of the first j. -/
def DelInv (T : Spd → Bool) (S : List Spd) (g c base : Nat) (w : World) (j i : Nat) (wr : World) : Prop :=
  ∃ L X, i = (keepL T S j).length ∧ L = keepL T S j ++ X ++ S.drop j ∧ 0 < X.length ∧ i + X.length = j ∧ L.length = S.length ∧ SpOwn wr base (.slice (some ⟨g, 0, none⟩) L.length c) L ∧ w.grownBy wr (some g)
theorem getD_mid {A X : List Spd} {S : List Spd} {j : Nat} (h : A.length + X.length = j) (_ : j < S.length) : (A ++ X ++ S.drop j).getD j (0, 0) = S.getD j (0, 0) := by
  simp only [List.getD_eq_getElem?_getD]
  rw [List.getElem?_append_right (by simp; omega)]
  simp [show j - (A.length + X.length) = 0 by omega]
theorem DelInv.facts {T : Spd → Bool} {S : List Spd} {g c base : Nat} {w wr : World} {j i : Nat} (h : DelInv T S g c base w j i wr) (hj : j < S.length) :
    g < wr.heap.size ∧ base ≤ g ∧ i < j ∧ wr.cell? ⟨g, j * 2, none⟩ = some (.int .i64 (tS S j)) ∧ wr.cell? ⟨g, j * 2 + 1, none⟩ = some (.int .i64 (cS S j)) ∧ (∃ a, wr.cell? ⟨g, i * 2, none⟩ = some a) ∧ (∃ a, wr.cell? ⟨g, i * 2 + 1, none⟩ = some a) ∧ (∀ k, wr.frozen? ⟨g, k, none⟩ = false) ∧ w.grownBy wr (some g) := by
  obtain ⟨L, X, h1, h2, h3, h4, h5, h6, h7⟩ := h
  obtain ⟨a1, a2, a3, a4, a5⟩ := h6.slot j (by omega)
  obtain ⟨-, -, b3, b4, -⟩ := h6.slot i (by omega)
  have e : L.getD j (0, 0) = S.getD j (0, 0) := by rw [h2]; exact getD_mid (by omega) hj
  rw [show tS L j = tS S j by unfold tS; rw [e]] at a3
  rw [show cS L j = cS S j by unfold cS; rw [e]] at a4
  exact ⟨a1, a2, by omega, a3, a4, ⟨_, b3⟩, ⟨_, b4⟩, a5, h7⟩
theorem drop_getD {S : List Spd} {j : Nat} (hj : j < S.length) : S.drop j = S.getD j (0, 0) :: S.drop (j + 1) := by
  rw [List.drop_eq_getElem_cons hj]; simp [List.getD_eq_getElem?_getD, hj]
theorem DelInv.drop {T : Spd → Bool} {S : List Spd} {g c base : Nat} {w wr w' : World} {j i : Nat} (h : DelInv T S g c base w j i wr) (hj : j < S.length) (hT : T (S.getD j (0, 0)) = true) (hb : Below wr.heap.size wr w') : DelInv T S g c base w (j + 1) i w' := by
  obtain ⟨L, X, h1, h2, h3, h4, h5, h6, h7⟩ := h
  refine ⟨L, X ++ [S.getD j (0, 0)], by rw [keepL_del hj hT]; exact h1, ?_, by simp, by simp; omega, h5, h6.below hb, grown_trans h7 (grown_of_below hb)⟩
  rw [h2, keepL_del hj hT, drop_getD hj]; simp
theorem DelInv.keep {T : Spd → Bool} {S : List Spd} {g c base : Nat} {w wr w' : World} {j i : Nat} (h : DelInv T S g c base w j i wr) (hj : j < S.length) (hT : T (S.getD j (0, 0)) = false) (hb : Below wr.heap.size wr w') :
    DelInv T S g c base w (j + 1) (i + 1) ((w'.setCell ⟨g, i * 2, none⟩ (.int .i64 (tS S j))).setCell ⟨g, i * 2 + 1, none⟩ (.int .i64 (cS S j))) := by
  obtain ⟨L, X, h1, h2, h3, h4, h5, h6, h7⟩ := h
  obtain ⟨x, X', rfl⟩ : ∃ x X', X = x :: X' := by
    cases X with
    | nil => simp at h3
    | cons x X' => exact ⟨x, X', rfl⟩
  have hi : i < L.length := by simp at h4; omega
  have e : L.set i (S.getD j (0, 0)) = keepL T S (j + 1) ++ (X' ++ [S.getD j (0, 0)]) ++ S.drop (j + 1) := by
    rw [h2, h1, keepL_keep hj hT, drop_getD hj, List.append_assoc, List.set_append_right _ _ (Nat.le_refl _)]
    simp
  have hs := (h6.below hb).set2 i hi (tS S j) (cS S j)
  rw [show ((tS S j, cS S j) : Spd) = S.getD j (0, 0) from rfl] at hs
  have hgr : w.grownBy ((w'.setCell ⟨g, i * 2, none⟩ (.int .i64 (tS S j))).setCell ⟨g, i * 2 + 1, none⟩ (.int .i64 (cS S j))) (some g) := by
    refine grown_trans (grown_trans h7 (grown_of_below hb)) ⟨rfl, rfl, rfl, by simp [World.setCell], fun k hk hne => ?_⟩
    have hkg : k ≠ g := fun e => hne (by rw [e])
    exact (Below.heap_setCell _ _ _ k hkg).trans (Below.heap_setCell _ _ _ k hkg)
  refine ⟨L.set i (S.getD j (0, 0)), X' ++ [S.getD j (0, 0)], by rw [keepL_keep hj hT]; simp [h1], e, by simp, by simp at h4 ⊢; omega, by simpa using h5, ?_, hgr⟩
  rw [List.length_set]; exact hs
theorem DelInv.start {T : Spd → Bool} {S : List Spd} {g c base : Nat} {w wr : World} {k : Nat} (hk : k < S.length) (hT : T (S.getD k (0, 0)) = true) (hall : ∀ j, j < k → T (S.getD j (0, 0)) = false) (hown : SpOwn wr base (.slice (some ⟨g, 0, none⟩) S.length c) S) (hg : w.grownBy wr (some g)) :
    DelInv T S g c base w (k + 1) k wr := by
  refine ⟨S, [S.getD k (0, 0)], ?_, ?_, by simp, by simp, rfl, hown, hg⟩
  · rw [keepL_del hk hT, keepL_all k (by omega) hall]; simp; omega
  · rw [keepL_del hk hT, keepL_all k (by omega) hall, List.append_assoc, List.singleton_append, ← drop_getD hk, List.take_append_drop]
end Go.Proofs.Ytmnkgfimdlhhiaa
