/-
  Budgets: slices.DeleteFunc over spends.
-/
import Derived.Test.YtmnkgfimdlhhiaaBudG
import Derived.Lib.SliceRun
namespace Go.Proofs.Ytmnkgfimdlhhiaa
open Go.RowKit

theorem zero_spends (n : Nat) : (Builtin.zeroCells #[Value.int .i64 0, Value.int .i64 0] n).toList = List.replicate (n * 2) (Value.int .i64 0) := by
  simp only [Builtin.zeroCells]
  apply List.ext_getElem
  · simp
  · intro i h1 h2
    simp
    rcases Nat.mod_two_eq_zero_or_one i with h | h <;> simp [h]
theorem zeroS (w : World) : (zeroValue 33).run Try.prog w = .ok (.agg #[.int .i64 0, .int .i64 0]) w := by kernel_rfl
theorem SpOwn.cap {w : World} {base g n c : Nat} {L : List Spd} (h : SpOwn w base (.slice (some ⟨g, 0, none⟩) n c) L) : L.length ≤ c := by
  rcases h.2 with ⟨h0, _⟩ | ⟨g', cap, cur, hv, hg, hh, hnc, _⟩
  · cases h0
  · injection hv with h1 h2 h3
    subst h3; exact hnc
theorem clear_run {w : World} {base g c : Nat} {L : List Spd} (h : SpOwn w base (.slice (some ⟨g, 0, none⟩) L.length c) L) (i : Nat) (hi : i < L.length) (c' : Nat) :
    ∃ w', (∀ ty, (Builtin.clear_ #[22] ty #[.slice (some ⟨g, i * 2, none⟩) (L.length - i) c']).run Try.prog w = .ok (.tuple #[]) w') ∧ SpOwn w' base (.slice (some ⟨g, 0, none⟩) i c) (L.take i) ∧ w.grownBy w' (some g) := by
  rcases h.2 with ⟨h0, _⟩ | ⟨g', cap, cur, hv, hg, hh, hnc, hcm, hcs, htk⟩
  · cases h0
  · injection hv with h1 h2 h3
    injection h1 with h1
    injection h1 with h1
    subst h1; subst h3
    have hst := run_storeCells_at (P := Try.prog) g (i * 2) 33 (List.replicate ((L.length - i) * 2) (Value.int .i64 0)) 0 cur w hh (by simp; omega) (by intro v hv; rw [List.eq_of_mem_replicate hv]; rfl)
    obtain ⟨cs, hcs2⟩ : ∃ cs : Array Value, cs = (cur.toList.take (i * 2 + 0) ++ List.replicate ((L.length - i) * 2) (Value.int .i64 0) ++ cur.toList.drop (i * 2 + 0 + (List.replicate ((L.length - i) * 2) (Value.int .i64 0)).length)).toArray := ⟨_, rfl⟩
    rw [← hcs2] at hst
    refine ⟨w.setRow g cs, fun ty => ?_, ?_, ⟨rfl, rfl, rfl, by simp [World.setRow], fun k _ hne => setRow_other w g k cs (fun e => hne (by rw [e]))⟩⟩
    · clear hcs2
      obtain ⟨m, hm⟩ : ∃ m, L.length - i = m + 1 := ⟨L.length - i - 1, by omega⟩
      rw [hm] at hst ⊢
      have hz := zero_spends (m + 1)
      simp only [Builtin.clear_]
      simp [run_underlying Try.underlying22, Value.cells, hz, hst, Result.andThen]
    · have hl : (L.take i).length = i := by simp; omega
      refine ⟨by rw [flat_len, hl], .inr ⟨g, c, cs, by rw [hl], hg, setRow_heap w g cur _ _ _ hh, by omega, hcm, ?_, ?_⟩⟩
      · rw [hcs2]; simp; omega
      · have e : flat L = flat (L.take i) ++ flat (L.drop i) := by rw [← flat_append, List.take_append_drop]
        have e2 : List.take (i * 2) cur.toList = flat (L.take i) := by
          have h3 : List.take (i * 2) (List.take (L.length * 2) cur.toList) = List.take (i * 2) cur.toList := by rw [List.take_take]; congr 1; omega
          rw [← h3, htk, e, List.take_append_of_le_length (by rw [flat_len, hl]; exact Nat.le_refl _), List.take_of_length_le (by rw [flat_len, hl]; exact Nat.le_refl _)]
        rw [hcs2, Nat.add_zero, List.append_assoc, List.take_append_of_le_length (by simp; omega), List.take_take, hl, Nat.min_self, e2]

/-- The slice of what is kept; the block g alone has turned. -/
def DelP (w : World) (base g : Nat) (S : List Spd) (e : Ending) (w' : World) : Prop := ∃ v, e = .returned v ∧ SpOwn w' base v S ∧ w.grownBy w' (some g)
theorem filter_none {T : Spd → Bool} {S : List Spd} (h : ∀ j, j < S.length → T (S.getD j (0, 0)) = false) : S = S.filter fun y => !T y := by
  rw [← keepL_end, keepL_all S.length (Nat.le_refl _) h, List.take_length]
set_option maxRecDepth 100000 in
set_option maxHeartbeats 1000000 in
theorem deleteFunc_any (n : Nat) (u1 u2 : Value) (T : Spd → Bool) (base g c : Nat) (S : List Spd) (w : World) (hown : SpOwn w base (.slice (some ⟨g, 0, none⟩) S.length c) S) (hl : S.length ≤ 100000) (hn : ∀ args w, (callFunc n args).run Try.prog w = .ok (.enter n args) w)
    (hT : ∀ w', w.grownBy w' (some g) → ∀ k, k < S.length → Calls Try.prog n #[.agg #[.int .i64 (tS S k), .int .i64 (cS S k)], u1, u2] w' (RetB (.bool (T (S.getD k (0, 0)))) w')) :
    Calls Try.prog 52 #[.slice (some ⟨g, 0, none⟩) S.length c, .func (.func n) #[] #[u1, u2]] w (DelP w base g (S.filter fun y => !T y)) := by
  have HOWN := Lib.hid hown
  have HT := Lib.hid hT
  clear hown hT
  go_enter Try.func52, Try.ntmps52
  go_wp2_with fail
  obtain ⟨C, c', ec, hC, -, -⟩ := HOWN.out.at_
  injection ec with ec1 ec2 ec3
  subst ec1; subst ec3
  refine (indexFunc_any n u1 u2 T (some ⟨g, 0, none⟩) S c _ hC hl hn (fun w' hb k hk => HT.out w' (grown_of_below hb) k hk)).mono ?_
  rintro e w1 ⟨i, rfl, hi, hb⟩
  clear hC
  rcases hi with ⟨rfl, hall⟩ | ⟨k, rfl, hk, hTk, hall⟩
  · have HV := Lib.hid (filter_none hall)
    clear hall
    go_wp2_with fail
    go_ret
    exact ⟨_, rfl, by rw [← HV.out]; exact HOWN.out.below hb, grown_of_below hb⟩
  · have HD := Lib.hid (DelInv.start hk hTk hall (HOWN.out.below hb) (grown_of_below (r := some g) hb))
    have e1 : ((k : Int) == -1) = false := by simp
    clear hall hTk
    go_wp2_with fail
    go_loopw [6, 5] (fun j i wr => ∃ j' i' : Nat, j' ≤ S.length ∧ j = .int .i64 j' ∧ i = .int .i64 i' ∧ DelInv T S g c base w j' i' wr) (fun j _ _ => S.length - (intOf j).toNat)
    case atStart => exact ⟨k + 1, k, by omega, by go_num, rfl, HD.out⟩
    case round =>
      obtain ⟨j, i, hj, rfl, rfl, hinv⟩ := hrel
      have HI := Lib.hid hinv
      clear hinv
      by_cases hlt : j < S.length
      · obtain ⟨a1, a2, a3, a4, a5, ⟨q6, a6⟩, ⟨q7, a7⟩, a8, a9⟩ := HI.out.facts hlt
        have g0 := a8 (i * 2)
        have g1 := a8 (i * 2 + 1)
        clear a8
        go_wp2_with fail
        have hgr := Lib.hid (grown_trans a9 (grown_of_below (r := some g) (below_alloc wr (.cells #[.int .i64 (tS S j), .int .i64 (cS S j)] 33))))
        refine ret_below (HT.out _ hgr.out j hlt) fun w2 hb2 => ?_
        generalize hx : T (S.getD j (0, 0)) = tv at *
        have HX := Lib.hid hx
        clear hx
        have hbw : Below wr.heap.size wr w2 := (below_alloc _ _).trans (hb2.mono (by simp))
        cases tv with
        | true =>
          have HN := Lib.hid (HI.out.drop hlt HX.out hbw)
          clear HI hgr a9
          go_wp2_with fail
          go_roundw
          case rel => exact ⟨j + 1, i, by omega, by go_num, rfl, HN.out⟩
          case measure => simp [intOf]; omega
        | false =>
          have HN := Lib.hid (HI.out.keep hlt HX.out hbw)
          have m6 := (hbw.cell (p := ⟨g, i * 2, none⟩) a1).trans a6
          have m7 := (hbw.cell (p := ⟨g, i * 2 + 1, none⟩) a1).trans a7
          have m0 := (hbw.frozen (p := ⟨g, i * 2, none⟩) a1).trans g0
          have m1 := (hbw.frozen (p := ⟨g, i * 2 + 1, none⟩) a1).trans g1
          obtain ⟨p0, p1⟩ := pair_cells wr (tS S j) (cS S j)
          have r0 := (hb2.cell (p := ⟨wr.heap.size, 0, none⟩) (by simp)).trans p0
          have r1 := (hb2.cell (p := ⟨wr.heap.size, 1, none⟩) (by simp)).trans p1
          clear HI hgr a9 a6 a7 g0 g1 p0 p1
          go_wp2_with fail
          go_roundw
          case rel => exact ⟨j + 1, i + 1, by omega, by go_num, by go_num, HN.out⟩
          case measure => simp [intOf]; omega
      · have hje : j = S.length := by omega
        subst hje
        obtain ⟨L, X, h1, h2, h3, h4, h5, h6, h7⟩ := HI.out
        have hiL : i < L.length := by omega
        obtain ⟨w3, hrun, hown3, hg3⟩ := clear_run h6 i hiL (c - i)
        have hres : L.take i = S.filter fun y => !T y := by
          rw [h2, h1, List.append_assoc, List.take_left', keepL_end]; rfl
        rw [h5] at hrun
        have HR := Lib.hid (show DelP w base g (S.filter fun y => !T y) (.returned (.slice (some ⟨g, 0, none⟩) i c)) w3 from ⟨_, rfl, by rw [← hres]; exact hown3, grown_trans h7 hg3⟩)
        have hi2 : i ≤ S.length := by omega
        have hi3 := HOWN.out.cap
        have hi4 : i ≤ c := by omega
        clear h1 h2 h3 h4 h6 h7 hown3 hg3 hres HI
        go_wp2_with fail
        go_ret
        exact HR.out
end Go.Proofs.Ytmnkgfimdlhhiaa
