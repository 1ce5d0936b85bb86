/-
  Gifts: the document's Differs; that it says what the program's does.
  Attacker: the law's check of itself.
  play.Fill: elements that follow from a seed.
  Refresh: Own.
  Refresh: Apply, for any lists.
  Refresh: Sum.
  Refresh: what the functions say of lists that all holders have; the sanity check.
  Refresh: sums of zeros; the order of sums.
  Lists of lists under way.
  Reshare: plans, givers, parts that fit, Split.
  Reshare: parts that fit; Split.
  Reshare: the parts fit; Split.
  Reshare: Join.
  Reshare: the plain law: what is joined are shares of the same secret.
  Reshare: lists of shares, one for each new holder, to which shares are appended in turn.
  law42's gift: lists of shares under way.
  law42's gift: the two regions of its loop, told by their steps.
  Conditions: those that each theorem names.
-/
import Derived.Test.YtjckpammcgeloaaDoorM9
set_option linter.unusedVariables false
set_option linter.unusedSimpArgs false
namespace Go.Proofs.YtjckpammcgeloaaDoor
open Go.RowKit

def difR (G K : GiftD) : Bool := (G.h == K.h) && fmS G.bx K.bx && fmS G.wh K.wh && fmS [(G.kh, G.kv)] [(K.kh, K.kv)] && ((fmS G.bx K.bx && anyK G.bx K.bx G.bx.length) || (fmS G.wh K.wh && anyK G.wh K.wh G.wh.length) || (fmS [(G.kh, G.kv)] [(K.kh, K.kv)] && anyK [(G.kh, G.kv)] [(K.kh, K.kv)] 1))
set_option maxRecDepth 100000 in
set_option maxHeartbeats 4000000 in
theorem refDiffers_any {P P' : Nat → Prop} (u v : Value) (G K : GiftD) (w : World) (hG : GiftR P w u G) (hK : GiftR P' w v K) (sG : GSmall G) :
    Calls Tryd.prog 20 #[u, v] w (RetB (.bool (difR G K)) w) := by
  obtain ⟨A, ca, B, cb, C, cc, rfl, h1, h2, h3⟩ := hG
  obtain ⟨A', ca', B', cb', C', cc', rfl, k1, k2, k3⟩ := hK
  obtain ⟨s1, s2, s3, s4, s5⟩ := sG
  have D1 := Lib.hid (fun (W : World) (hb : Below w.heap.size w W) => refDiffer_any A A' G.bx K.bx ca ca' W (h1.below hb) (k1.below hb) s1 (by omega))
  have D2 := Lib.hid (fun (W : World) (hb : Below w.heap.size w W) => refDiffer_any B B' G.wh K.wh cb cb' W (h2.below hb) (k2.below hb) s2 (by omega))
  have D3 := Lib.hid (fun (W : World) (hb : Below w.heap.size w W) (g g' : Nat) (hg : W.heap[g]? = some (.cells #[.int .i64 G.kh, .slice C G.kv.length cc] 35 (0, 0))) (hg' : W.heap[g']? = some (.cells #[.int .i64 K.kh, .slice C' K.kv.length cc'] 35 (0, 0))) =>
    refDiffer_any (some ⟨g, 0, none⟩) (some ⟨g', 0, none⟩) [(G.kh, G.kv)] [(K.kh, K.kv)] 1 1 W (lit_one (P := fun _ => True) hg trivial ((h3.keep (Kept.below hb)).mono (fun _ _ _ => trivial))) (lit_one (P := fun _ => True) hg' trivial ((k3.keep (Kept.below hb)).mono (fun _ _ _ => trivial))) (short_one' s3) (by simp))
  have HE := Lib.hid (show difR G K = ((G.h == K.h) && fmS G.bx K.bx && fmS G.wh K.wh && fmS [(G.kh, G.kv)] [(K.kh, K.kv)] && ((fmS G.bx K.bx && anyK G.bx K.bx G.bx.length) || (fmS G.wh K.wh && anyK G.wh K.wh G.wh.length) || (fmS [(G.kh, G.kv)] [(K.kh, K.kv)] && anyK [(G.kh, G.kv)] [(K.kh, K.kv)] 1))) from rfl)
  unfold dfV at D1 D2 D3
  clear h1 h2 h3 k1 k2 k3 s1 s2 s3 s4 s5
  rw [HE.out]
  clear HE
  obtain ⟨gh, gb, gw, gkh, gkv⟩ := G
  obtain ⟨kh, kb, kw, kkh, kkv⟩ := K
  simp only [List.length_singleton] at *
  generalize fmS gb kb = f1 at *
  generalize fmS gw kw = f2 at *
  generalize fmS [(gkh, gkv)] [(kkh, kkv)] = f3 at *
  generalize (f1 && anyK gb kb gb.length) = x1 at *
  generalize (f2 && anyK gw kw gw.length) = x2 at *
  generalize (f3 && anyK [(gkh, gkv)] [(kkh, kkv)] 1) = x3 at *
  have HB := Lib.hid (Below.refl w.heap.size w)
  go_enter Tryd.func20, Tryd.ntmps20
  go_wp2_with fail
  refine gen_calls fun w1 hw1 => ?_
  have c1 : GiftCell w1 w.heap.size gh (.slice A gb.length ca) (.slice B gw.length cb) gkh (.slice C gkv.length cc) := by rw [hw1]; exact (GiftCell.new _ _ _ _ _ rfl).alloc _
  have c2 : GiftCell w1 (w.heap.size + 1) kh (.slice A' kb.length ca') (.slice B' kw.length cb') kkh (.slice C' kkv.length cc') := by rw [hw1]; exact GiftCell.new _ _ _ _ _ (by simp)
  have hb1 : Below w.heap.size w w1 := by rw [hw1]; exact bl_alloc _ (below_alloc _ _)
  clear hw1
  refine ret_below (D1.out _ hb1) fun w2 hb2 => ?_
  have hb12 := below_trans hb1 hb2
  have C1 := Lib.hid (c1.below hb2)
  have C2 := Lib.hid (c2.below hb2)
  have x20 := C1.out.c2
  have y20 := C2.out.c2
  clear c1 c2
  go_wp2_with fail
  refine ret_below (D2.out _ hb12) fun w3 hb3 => ?_
  have hb13 := below_trans hb12 hb3
  replace C1 := Lib.hid (C1.out.below hb3)
  replace C2 := Lib.hid (C2.out.below hb3)
  have x3' := C1.out.c3
  have y3' := C2.out.c3
  have x4' := C1.out.c4
  have y4' := C2.out.c4
  have lx := C1.out.lt
  have ly := C2.out.lt
  clear x20 y20
  go_wp2_with fail
  refine gen_calls fun w4 hw4 => ?_
  have hb4 : Below w3.heap.size w3 w4 := by rw [hw4]; exact bl_alloc _ (below_alloc _ _)
  have g1 : w4.heap[w3.heap.size]? = some (.cells #[.int .i64 gkh, .slice C gkv.length cc] 35 (0, 0)) := by rw [hw4]; exact ((below_alloc _ _).block _ (by simp)).trans (heap_alloc_new _ _)
  have g2 : w4.heap[w3.heap.size + 1]? = some (.cells #[.int .i64 kkh, .slice C' kkv.length cc'] 35 (0, 0)) := by rw [hw4]; simpa using heap_alloc_new (w3.alloc _) _
  clear hw4 x3' y3' x4' y4' lx ly
  replace C1 := Lib.hid (C1.out.below hb4)
  replace C2 := Lib.hid (C2.out.below hb4)
  have hb14 := below_trans hb13 hb4
  refine ret_below (D3.out _ hb14 _ _ g1 g2) fun w5 hb5 => ?_
  have HB3 := Lib.hid (below_trans hb14 hb5)
  replace C1 := Lib.hid (C1.out.below hb5)
  replace C2 := Lib.hid (C2.out.below hb5)
  have x0 := C1.out.c0
  have y0 := C2.out.c0
  clear g1 g2
  go_upto_region 4 with fail
  by_cases e0 : gh = kh
  · have t0 : (gh == kh) = true := by simp [e0]
    clear e0

    cases f1 with
    | false =>
      go_wp2_with fail
      go_ret
      exact RetB.bool (by rw [t0]; rfl) HB3.out
    | true =>
      cases f2 with
      | false =>
        go_wp2_with fail
        go_ret
        exact RetB.bool (by rw [t0]; rfl) HB3.out
      | true =>
        cases f3 with
        | false =>
          go_wp2_with fail
          go_ret
          exact RetB.bool (by rw [t0]; rfl) HB3.out
        | true =>
          cases x1 with
          | true =>
            go_wp2_with fail
            go_ret
            exact RetB.bool (by rw [t0]; rfl) HB3.out
          | false =>
            cases x2 with
            | true =>
              go_wp2_with fail
              go_ret
              exact RetB.bool (by rw [t0]; rfl) HB3.out
            | false =>
              cases x3 with
              | true =>
                go_wp2_with fail
                go_ret
                exact RetB.bool (by rw [t0]; rfl) HB3.out
              | false =>
                go_wp2_with fail
                go_ret
                exact RetB.bool (by rw [t0]; rfl) HB3.out
  · have t0 : (gh == kh) = false := by simp [e0]
    clear e0

    go_wp2_with fail
    go_ret
    exact RetB.bool (by rw [t0]; rfl) HB3.out

/-! ### The plain law -/
theorem vlsK_len_eq {U V : List Shr} : ∀ k, (∀ j, j < k → (vS U j).length = (vS V j).length) → (vlsK U k).length = (vlsK V k).length
  | 0, _ => rfl
  | k + 1, h => by simp only [vlsK, List.length_append]; rw [vlsK_len_eq k (fun j hj => h j (by omega)), h k (by omega)]
theorem vlsK_same {U V : List Shr} : ∀ k, (∀ j, j < k → (vS U j).length = (vS V j).length) → (vlsK U k = vlsK V k ↔ anyK U V k = false)
  | 0, _ => by simp [vlsK, anyK]
  | k + 1, h => by
    have h1 := vlsK_len_eq k (fun j hj => h j (by omega))
    have h2 := vlsK_same k (fun j hj => h j (by omega))
    show vlsK U k ++ vS U k = vlsK V k ++ vS V k ↔ (anyK U V k || !sameL (vS U k) (vS V k)) = false
    rw [Bool.or_eq_false_iff, ← h2, Bool.not_eq_false']
    unfold sameL
    rw [decide_eq_true_eq]
    exact ⟨fun e => List.append_inj e h1, fun e => by rw [e.1, e.2]⟩
theorem vS_left {S T : List Shr} {k : Nat} (h : k < S.length) : vS (S ++ T) k = vS S k := by rw [vS_app, if_pos h]
theorem vS_right {S T : List Shr} {k : Nat} (h : S.length ≤ k) : vS (S ++ T) k = vS T (k - S.length) := by rw [vS_app, if_neg (by omega)]
theorem anyK_app {S T S' T' : List Shr} (hl : S.length = T.length) : ∀ k, anyK (S ++ S') (T ++ T') (S.length + k) = (anyK S T S.length || anyK S' T' k)
  | 0 => by
    rw [Nat.add_zero]
    have h : ∀ j, j ≤ S.length → anyK (S ++ S') (T ++ T') j = anyK S T j := by
      intro j
      induction j with
      | zero => intro _; rfl
      | succ j ih =>
        intro hj
        simp only [anyK]
        rw [ih (by omega), vS_app, vS_app, if_pos (by omega), if_pos (by omega)]
    rw [h _ (Nat.le_refl _)]; simp [anyK]
  | k + 1 => by
    rw [show S.length + (k + 1) = (S.length + k) + 1 by omega]
    simp only [anyK]
    rw [anyK_app hl k, vS_app, vS_app, if_neg (by omega), if_neg (by omega), show S.length + k - S.length = k by omega, show S.length + k - T.length = k by omega, Bool.or_assoc]
theorem fmS_get {S T : List Shr} (h : fmS S T = true) : S.length = T.length ∧ ∀ j, j < S.length → (vS S j).length = (vS T j).length := by
  unfold fmS sameL at h
  have e := of_decide_eq_true h
  have hl : S.length = T.length := by
    have := congrArg List.length e
    rw [shpL, shpL, shpK_len, shpK_len] at this; omega
  rw [shpL, shpL, ← hl] at e
  exact ⟨hl, fun j hj => (shpK_inv _ e j hj).2⟩
theorem dif_same (G K : GiftD) : difP G K = difR G K := by
  unfold difP difR fmE eq3
  show ((G.h == K.h) && (fmS G.bx K.bx && fmS G.wh K.wh && fmS [(G.kh, G.kv)] [(K.kh, K.kv)]) && _) = _
  cases h0 : (G.h == K.h) with
  | false => rfl
  | true =>
    cases h1 : fmS G.bx K.bx with
    | false => rfl
    | true =>
      cases h2 : fmS G.wh K.wh with
      | false => rfl
      | true =>
        cases h3 : fmS [(G.kh, G.kv)] [(K.kh, K.kv)] with
        | false => rfl
        | true =>
          obtain ⟨l1, e1⟩ := fmS_get h1
          obtain ⟨l2, e2⟩ := fmS_get h2
          obtain ⟨-, e3⟩ := fmS_get h3
          have e3 : G.kv.length = K.kv.length := e3 0 (by simp)
          have hl : (allS G).length = (allS K).length := by simp only [allS, List.length_append, List.length_singleton]; omega
          have hv := vlsK_same (U := allS G) (V := allS K) (allS G).length (fun j hj => by
            unfold allS
            have hlen : (G.bx ++ G.wh).length = (K.bx ++ K.wh).length := by simp only [List.length_append]; omega
            have ha : (allS G).length = (G.bx ++ G.wh).length + 1 := by simp only [allS, List.length_append, List.length_singleton]
            by_cases q : j < (G.bx ++ G.wh).length
            · rw [vS_left (T := [(G.kh, G.kv)]) q, vS_left (T := [(K.kh, K.kv)]) (show j < (K.bx ++ K.wh).length by omega)]
              rw [List.length_append] at q
              by_cases q2 : j < G.bx.length
              · rw [vS_left q2, vS_left (show j < K.bx.length by omega)]; exact e1 j q2
              · rw [vS_right (show G.bx.length ≤ j by omega), vS_right (show K.bx.length ≤ j by omega), l1]; exact e2 _ (by omega)
            · have hj2 : j = (G.bx ++ G.wh).length := by omega
              rw [vS_right (T := [(G.kh, G.kv)]) (show (G.bx ++ G.wh).length ≤ j by omega), vS_right (T := [(K.kh, K.kv)]) (show (K.bx ++ K.wh).length ≤ j by omega), ← hlen, hj2, Nat.sub_self]
              exact e3)
          have ha : anyK (allS G) (allS K) (allS G).length = (anyK G.bx K.bx G.bx.length || anyK G.wh K.wh G.wh.length || anyK [(G.kh, G.kv)] [(K.kh, K.kv)] 1) := by
            unfold allS
            rw [show (G.bx ++ G.wh ++ [(G.kh, G.kv)]).length = (G.bx ++ G.wh).length + 1 by simp only [List.length_append, List.length_singleton],
              anyK_app (by simp only [List.length_append]; omega) 1]
            rw [show (G.bx ++ G.wh).length = G.bx.length + G.wh.length from List.length_append, anyK_app l1]
          rw [ha] at hv
          have hs : sameL (valsG G) (valsG K) = !(anyK G.bx K.bx G.bx.length || anyK G.wh K.wh G.wh.length || anyK [(G.kh, G.kv)] [(K.kh, K.kv)] 1) := by
            unfold valsG sameL
            rw [← hl]
            cases hq : (anyK G.bx K.bx G.bx.length || anyK G.wh K.wh G.wh.length || anyK [(G.kh, G.kv)] [(K.kh, K.kv)] 1) with
            | false => exact decide_eq_true (hv.2 hq)
            | true => exact decide_eq_false (fun e => by rw [hv.1 e] at hq; cases hq)
          rw [hs]
          simp
end Go.Proofs.YtjckpammcgeloaaDoor
namespace Go.Proofs.YtjckpammcgeloaaDoor
open Go.RowKit

theorem litI {P : Nat → Prop} {w : World} {g : Nat} {L : List Int} (h : w.heap[g]? = some (.cells (L.map (Value.int .i64)).toArray 3 (0, 0))) (hP : P g) (hl : L.length ≤ 1000) : IntsP P w (some ⟨g, 0, none⟩) L.length L :=
  ⟨IntBlk.ints h, ⟨Nat.le_refl _, by unfold maxLen; omega, (fun e => by cases e), .inr (fun a e => by injection e with e; subst e; rfl)⟩, fun b off e => by injection e with e; injection e with e1 e2; subst e1; exact .inr hP⟩
theorem alloc_old {w : World} {o : Obj} {k : Nat} (h : k < w.heap.size) : (w.alloc o).heap[k]? = w.heap[k]? := (below_alloc w o).block k h
theorem alloc_at {w : World} {cs : Array Value} {ty : TypeId} {k : Nat} (h : k = w.heap.size) : (w.alloc (.cells cs ty)).heap[k]? = some (.cells cs ty (0, 0)) := by subst h; exact heap_alloc_new w _
def atG0 : GiftD := ⟨1, [(1, [0, 10])], [(1, [3])], 1, [4]⟩
def atG2 : GiftD := ⟨1, [(1, [1, 0])], [(1, [4])], 1, [5]⟩
theorem small_gA : GSmall atG0 := by
  refine ⟨fun k hk => ?_, fun k hk => ?_, ?_, ?_, ?_⟩
  · have : k = 0 := by simp [atG0] at hk; omega
    subst this; decide
  · have : k = 0 := by simp [atG0] at hk; omega
    subst this; decide
  · decide
  · decide
  · decide
theorem tiny_gA : GTiny atG0 := by
  refine ⟨fun k hk => ?_, fun k hk => ?_, ?_, ?_, ?_⟩
  · have : k = 0 := by simp [atG0] at hk; omega
    subst this; decide
  · have : k = 0 := by simp [atG0] at hk; omega
    subst this; decide
  · decide
  · decide
  · decide
theorem tiny_gA2 : GTiny atG2 := by
  refine ⟨fun k hk => ?_, fun k hk => ?_, ?_, ?_, ?_⟩
  · have : k = 0 := by simp [atG2] at hk; omega
    subst this; decide
  · have : k = 0 := by simp [atG2] at hk; omega
    subst this; decide
  · decide
  · decide
  · decide
theorem chk_a (k : Int) (h : inI k 0 5 = true) : chkE 11 1 2 1 k = 0 := (chk_ok (plB_true (p := 11) (n := 1) (h := 2) (by omega) (by omega) (by omega) (by omega) (prime_valid prime_11 (by omega)).2) (by decide) h).symm
theorem sp_a : spE 11 1 2 1 2 atG0 = 0 ∧ spB 11 1 2 1 2 atG0 = true ∧ spG 11 1 2 1 2 0 atG0 atG0 atG0 = atG2 := by
  have h1 : spE 11 1 2 1 2 atG0 = 0 := by unfold spE; rw [if_pos (chk_a 2 (by decide))]; rfl
  have h2 : spB 11 1 2 1 2 atG0 = true := by unfold spB; rw [h1]; rfl
  refine ⟨h1, h2, ?_⟩
  unfold spG
  exact (if_pos h2).trans rfl
theorem sp_b : spE 11 1 2 1 4 atG0 = 0 ∧ spB 11 1 2 1 4 atG0 = false := by
  have h1 : spE 11 1 2 1 4 atG0 = 0 := by unfold spE; rw [if_pos (chk_a 4 (by decide))]; rfl
  exact ⟨h1, by unfold spB; rw [h1]; rfl⟩
theorem gift_cell_read {w : World} {P : Nat → Prop} {h kh : Int} {A B C : Option Addr} {ca cb cc n m l : Nat} {G : GiftD} (hG : GiftR P w (giftV h (.slice A n ca) (.slice B m cb) kh (.slice C l cc)) G) : h = G.h ∧ n = G.bx.length ∧ m = G.wh.length ∧ kh = G.kh ∧ l = G.kv.length ∧ ShP P w A ca G.bx ∧ ShP P w B cb G.wh ∧ IntsP P w C cc G.kv := by
  obtain ⟨A', ca', B', cb', C', cc', e, h1, h2, h3⟩ := hG
  unfold giftV at e
  injection e with e
  simp only [Array.mk.injEq, List.cons.injEq, Value.int.injEq, Value.slice.injEq, true_and, and_true] at e
  obtain ⟨rfl, ⟨rfl, rfl, rfl⟩, ⟨rfl, rfl, rfl⟩, rfl, rfl, rfl, rfl⟩ := e
  exact ⟨rfl, rfl, rfl, rfl, rfl, h1, h2, h3⟩
set_option maxRecDepth 100000 in
set_option maxHeartbeats 4000000 in
theorem awake42 (w : World) (hB : Bases w) : Calls Tryd.prog 8 #[] w (RetB (.bool true) w) := by
  have HB := Lib.hid hB
  clear hB
  go_enter Tryd.func8, Tryd.ntmps8
  go_wp2_with fail
  refine gen_calls fun w1 hw1 => ?_
  have hb1 : Below w.heap.size w w1 := by rw [hw1]; exact bl_alloc _ (bl_alloc _ (bl_alloc _ (bl_alloc _ (bl_alloc _ (bl_alloc _ (below_alloc _ _))))))
  have hz1 : w1.heap.size = w.heap.size + 7 := by rw [hw1]; simp
  have hpl : PlanCell w1 w.heap.size 11 1 2 := by rw [hw1]; unfold PlanCell; exact ((alloc_old (by simp <;> omega)).trans ((alloc_old (by simp <;> omega)).trans ((alloc_old (by simp <;> omega)).trans ((alloc_old (by simp <;> omega)).trans ((alloc_old (by simp <;> omega)).trans ((alloc_old (by simp <;> omega)).trans (alloc_at (by simp))))))))
  have g1 : w1.heap[w.heap.size + 1]? = some (.cells ([0, 10].map (Value.int .i64)).toArray 3 (0, 0)) := by rw [hw1]; exact ((alloc_old (by simp <;> omega)).trans ((alloc_old (by simp <;> omega)).trans ((alloc_old (by simp <;> omega)).trans ((alloc_old (by simp <;> omega)).trans ((alloc_old (by simp <;> omega)).trans (alloc_at (by simp)))))))
  have g2 : w1.heap[w.heap.size + 1 + 1]? = some (.cells #[.int .i64 1, .slice (some ⟨w.heap.size + 1, 0, none⟩) 2 2] 35 (0, 0)) := by rw [hw1]; exact ((alloc_old (by simp <;> omega)).trans ((alloc_old (by simp <;> omega)).trans ((alloc_old (by simp <;> omega)).trans ((alloc_old (by simp <;> omega)).trans (alloc_at (by simp))))))
  have g3 : w1.heap[w.heap.size + 1 + 1 + 1]? = some (.cells ([3].map (Value.int .i64)).toArray 3 (0, 0)) := by rw [hw1]; exact ((alloc_old (by simp <;> omega)).trans ((alloc_old (by simp <;> omega)).trans ((alloc_old (by simp <;> omega)).trans (alloc_at (by simp)))))
  have g4 : w1.heap[w.heap.size + 1 + 1 + 1 + 1]? = some (.cells #[.int .i64 1, .slice (some ⟨w.heap.size + 1 + 1 + 1, 0, none⟩) 1 1] 35 (0, 0)) := by rw [hw1]; exact ((alloc_old (by simp <;> omega)).trans ((alloc_old (by simp <;> omega)).trans (alloc_at (by simp))))
  have g5 : w1.heap[w.heap.size + 1 + 1 + 1 + 1 + 1]? = some (.cells ([4].map (Value.int .i64)).toArray 3 (0, 0)) := by rw [hw1]; exact ((alloc_old (by simp <;> omega)).trans (alloc_at (by simp)))
  have hgc : GiftCell w1 (w.heap.size + 1 + 1 + 1 + 1 + 1 + 1) 1 (.slice (some ⟨w.heap.size + 1 + 1, 0, none⟩) 1 1) (.slice (some ⟨w.heap.size + 1 + 1 + 1 + 1, 0, none⟩) 1 1) 1 (.slice (some ⟨w.heap.size + 1 + 1 + 1 + 1 + 1, 0, none⟩) 1 1) := by rw [hw1]; unfold GiftCell; exact alloc_at (by simp)
  clear hw1
  have HG := Lib.hid (show GiftR (fun _ => True) w1 (giftV 1 (.slice (some ⟨w.heap.size + 1 + 1, 0, none⟩) 1 1) (.slice (some ⟨w.heap.size + 1 + 1 + 1 + 1, 0, none⟩) 1 1) 1 (.slice (some ⟨w.heap.size + 1 + 1 + 1 + 1 + 1, 0, none⟩) 1 1)) atG0 from
    ⟨_, _, _, _, _, _, rfl, lit_one g2 trivial (litI g1 trivial (by simp)), lit_one g4 trivial (litI g3 trivial (by simp)), litI g5 trivial (by simp)⟩)
  have HP := Lib.hid hpl
  have HC := Lib.hid hgc
  have HB1 := Lib.hid hb1
  clear g1 g2 g3 g4 g5 hpl hgc hb1
  generalize w.heap.size + 1 + 1 + 1 + 1 + 1 + 1 = gx at *
  generalize w.heap.size + 1 + 1 + 1 + 1 + 1 = k5 at *
  generalize w.heap.size + 1 + 1 + 1 + 1 = k4 at *
  generalize w.heap.size + 1 + 1 = k2 at *
  refine (spoil_any 11 1 2 1 2 0 _ _ _ atG0 atG0 atG0 w1 (HB.out.below HB1.out HB.out.1) (by omega) (by omega) HG.out HG.out HG.out small_gA small_gA small_gA).mono ?_
  rintro e w2 ⟨v, rfl, hG2, hb2⟩
  rw [sp_a.2.2] at hG2
  have f1 : spE ((11 : Nat) : Int) 1 2 1 2 atG0 = 0 := sp_a.1
  have f2 : spB ((11 : Nat) : Int) 1 2 1 2 atG0 = true := sp_a.2.1
  obtain ⟨A, ca, B, cb, C, cc, ev, q1, q2, q3⟩ := hG2
  replace ev : v = giftV 1 (.slice A 1 ca) (.slice B 1 cb) 1 (.slice C 1 cc) := ev
  subst ev
  have HG2 := Lib.hid (show GiftR (fun b => w1.heap.size ≤ b) w2 (giftV 1 (.slice A 1 ca) (.slice B 1 cb) 1 (.slice C 1 cc)) atG2 from ⟨_, _, _, _, _, _, rfl, q1, q2, q3⟩)
  replace HP := Lib.hid (HP.out.below hb2)
  replace HC := Lib.hid (HC.out.below hb2)
  replace HG := Lib.hid (HG.out.below hb2)
  have HB2 := Lib.hid (below_trans HB1.out hb2)
  clear q1 q2 q3 hb2
  rw [f1, f2]
  have p0 := HP.out.c0
  have p1 := HP.out.c1
  have p2 := HP.out.c2
  have x0 := HC.out.c0
  have x1 := HC.out.c1
  have x2 := HC.out.c2
  have x3 := HC.out.c3
  have x4 := HC.out.c4
  have lp := HP.out.lt
  have lx := HC.out.lt
  go_wp2_with fail
  refine gen_calls fun w3 hw3 => ?_
  have hb3 : Below w2.heap.size w2 w3 := by rw [hw3]; exact below_alloc _ _
  have HC2 := Lib.hid (show GiftCell w3 w2.heap.size 1 (.slice A 1 ca) (.slice B 1 cb) 1 (.slice C 1 cc) from by rw [hw3]; exact GiftCell.new _ _ _ _ _ rfl)
  clear hw3 p0 p1 p2 x0 x1 x2 x3 x4 lp lx f1 f2
  replace HP := Lib.hid (HP.out.below hb3)
  replace HC := Lib.hid (HC.out.below hb3)
  replace HG := Lib.hid (HG.out.below hb3)
  replace HG2 := Lib.hid (HG2.out.below hb3)
  replace HB2 := Lib.hid (below_trans HB2.out hb3)
  clear hb3
  refine (spoil_any 11 1 2 1 4 0 _ _ _ atG0 atG0 atG0 w3 (HB.out.below HB2.out HB.out.1) (by omega) (by omega) HG.out HG.out HG.out small_gA small_gA small_gA).mono ?_
  rintro e w4 ⟨v, rfl, hG4, hb4⟩
  obtain ⟨A1, ca1, B1, cb1, C1, cc1, rfl, -⟩ := hG4
  have f1 : spE ((11 : Nat) : Int) 1 2 1 4 atG0 = 0 := sp_b.1
  have f2 : spB ((11 : Nat) : Int) 1 2 1 4 atG0 = false := sp_b.2
  rw [f1, f2]
  replace HP := Lib.hid (HP.out.below hb4)
  replace HC := Lib.hid (HC.out.below hb4)
  replace HG := Lib.hid (HG.out.below hb4)
  replace HG2 := Lib.hid (HG2.out.below hb4)
  replace HC2 := Lib.hid (HC2.out.below hb4)
  replace HB2 := Lib.hid (below_trans HB2.out hb4)
  clear hb4 f1 f2
  go_upto_region 5 with fail
  refine gen_world fun w5 hw5 => ?_
  have hb5 : Below w4.heap.size w4 w5 := by rw [hw5]; exact below_alloc _ _
  clear hw5
  replace HP := Lib.hid (HP.out.below hb5)
  replace HC := Lib.hid (HC.out.below hb5)
  replace HG := Lib.hid (HG.out.below hb5)
  replace HG2 := Lib.hid (HG2.out.below hb5)
  replace HC2 := Lib.hid (HC2.out.below hb5)
  replace HB2 := Lib.hid (below_trans HB2.out hb5)
  clear hb5
  have c1 := HC2.out.c1
  have c0 := HC2.out.c0
  have c2 := HC2.out.c2
  have c3 := HC2.out.c3
  have c4 := HC2.out.c4
  have lc := HC2.out.lt
  have x0 := HC.out.c0
  have x1 := HC.out.c1
  have x2 := HC.out.c2
  have x3 := HC.out.c3
  have x4 := HC.out.c4
  have lx := HC.out.lt
  obtain ⟨-, -, -, -, -, s1, s2, s3⟩ := gift_cell_read HG2.out
  obtain ⟨b, off, D, dc, hA, hb, -, y0, y1, y2⟩ := s1.at_ 0 (by decide)
  obtain ⟨b1, o1, hD, hb1', z1⟩ := y2.ints 1 (by decide)
  obtain ⟨b2, o2, hC, hb2', z2⟩ := s3.ints 0 (by decide)
  subst hA hD hC
  have y1' : w5.cell? ⟨b, off + 0 * 2 + 1, none⟩ = some (.slice (some ⟨b1, o1, none⟩) 2 dc) := y1
  have z1' : w5.cell? ⟨b1, o1 + 1, none⟩ = some (.int .i64 0) := z1
  have z2' : w5.cell? ⟨b2, o2 + 0, none⟩ = some (.int .i64 5) := z2
  simp only [Nat.zero_mul, Nat.add_zero] at y1' z1' z2'
  clear s1 s2 s3 y0 y1 y2 z1 z2
  go_wp2_with fail
  have hd : ∀ W, Below w5.heap.size w5 W → Calls Tryd.prog 19 #[giftV 1 (.slice (some ⟨b, off, none⟩) 1 ca) (.slice B 1 cb) 1 (.slice (some ⟨b2, o2, none⟩) 1 cc), giftV 1 (.slice (some ⟨k2, 0, none⟩) 1 1) (.slice (some ⟨k4, 0, none⟩) 1 1) 1 (.slice (some ⟨k5, 0, none⟩) 1 1)] W (RetB (.bool true) W) := fun W hb => by
    have := differs_any _ _ atG2 atG0 W (HG2.out.below hb) (HG.out.below hb) tiny_gA2 tiny_gA (by decide)
    rw [show difP atG2 atG0 = true from by decide] at this
    exact this
  have hs : ∀ W, Below w5.heap.size w5 W → Calls Tryd.prog 17 #[giftV 1 (.slice (some ⟨k2, 0, none⟩) 1 1) (.slice (some ⟨k4, 0, none⟩) 1 1) 1 (.slice (some ⟨k5, 0, none⟩) 1 1), giftV 1 (.slice (some ⟨k2, 0, none⟩) 1 1) (.slice (some ⟨k4, 0, none⟩) 1 1) 1 (.slice (some ⟨k5, 0, none⟩) 1 1)] W (RetB (.bool true) W) := fun W hb => by
    have := same_gift _ _ atG0 atG0 W (HG.out.below hb) (HG.out.below hb) small_gA
    rw [eqG_refl] at this
    exact this
  have hc : ∀ W, Below w5.heap.size w5 W → Calls Tryd.prog 25 #[planV 11 1 2, lieV 3 0 0] W (RetB (.int .i64 1) W) := fun W hb => by
    have := check_lie 11 1 2 3 0 0 W (HB.out.below (below_trans HB2.out hb) HB.out.1)
    rw [show chkE 11 1 2 3 0 = 1 from (chk_1 (by decide)).symm] at this
    exact this
  have HD := Lib.hid hd
  have HS := Lib.hid hs
  have HCK := Lib.hid hc
  clear hd hs hc c0 c1 c2 c3 c4 lc x0 x1 x2 x3 x4 lx y1' z1' z2' hb hb1' hb2'
  refine ret_below (HD.out w5 (Below.refl _ _)) fun w6 hb6 => ?_
  replace HP := Lib.hid (HP.out.below hb6)
  replace HC := Lib.hid (HC.out.below hb6)
  replace HB2 := Lib.hid (below_trans HB2.out hb6)
  have x0 := HC.out.c0
  have x1 := HC.out.c1
  have x2 := HC.out.c2
  have x3 := HC.out.c3
  have x4 := HC.out.c4
  have lx := HC.out.lt
  go_wp2_with fail
  refine ret_below (HS.out _ hb6) fun w7 hb7 => ?_
  replace HP := Lib.hid (HP.out.below hb7)
  replace HB2 := Lib.hid (below_trans HB2.out hb7)
  have p0 := HP.out.c0
  have p1 := HP.out.c1
  have p2 := HP.out.c2
  have lp := HP.out.lt
  clear x0 x1 x2 x3 x4 lx
  go_wp2_with fail
  refine ret_below (HCK.out _ (below_trans hb6 hb7)) fun w8 hb8 => ?_
  go_wp2_with fail
  go_ret
  exact RetB.bool rfl (below_trans HB2.out hb8)
end Go.Proofs.YtjckpammcgeloaaDoor
namespace Go.Proofs.YtjckpammcgeloaaDoor
open Go.RowKit

/-- The call returns n elements of its own. -/
def FillP (p n : Nat) (w : World) (e : Ending) (w' : World) : Prop :=
  ∃ A c L, e = .returned (.slice A L.length c) ∧ L.length = n ∧ (∀ x ∈ L, 0 ≤ x ∧ x < (p : Int)) ∧ w'.ownsRow w.heap.size 3 1 (.slice A L.length c) L.length (valsI L) ∧ Below w.heap.size w w'
set_option maxRecDepth 100000 in
set_option maxHeartbeats 1000000 in
theorem fill_any (p n : Nat) (s : Int) (w : World) (hp : 2 ≤ p) (hp2 : p ≤ 1073741824) (hn : n ≤ 1000) :
    Calls Tryd.prog 27 #[.int .i64 p, .int .i64 s, .int .i64 n] w (FillP p n w) := by
  have hm := modI_range s p (by omega)
  have hmod := mod_any s p w (by omega)
  generalize modI s p = x0 at *
  go_enter Tryd.func27, Tryd.ntmps27
  go_wp2_with fail
  refine ret_pure hmod ?_
  clear hmod
  go_wp2_with fail
  go_loopw [7, 8, 9] (fun v x i wr => ∃ (k : Nat) (L : List Int) (y : Int), k ≤ n ∧ i = .int .i64 k ∧ x = .int .i64 y ∧ 0 ≤ y ∧ y < p ∧ L.length = k ∧ (∀ z ∈ L, 0 ≤ z ∧ z < (p : Int)) ∧ wr.ownsRow w.heap.size 3 1 v k (valsI L) ∧ Below w.heap.size w wr) (fun _ _ i _ => n - (intOf i).toNat)
  case atStart => exact ⟨0, [], x0, Nat.zero_le _, rfl, rfl, hm.1, hm.2, rfl, by simp, World.ownsRow_nil _ _ _ _, Below.refl _ _⟩
  case round =>
    obtain ⟨k, L, y, hk, rfl, rfl, hy1, hy2, hL, hLp, hown, hbr⟩ := hrel
    have HLk := Lib.hid hL
    have HLp := Lib.hid hLp
    have HBR := Lib.hid hbr
    have hsz := hbr.size
    clear hLp hbr
    by_cases hlt : k < n
    · clear hL
      have hk0 : (k : Int) < (n : Int) := by omega
      have h3 : 0 ≤ (y * 7 + 3 * (k : Int) + 5) := by omega
      have h4 : (y * 7 + 3 * (k : Int) + 5).tmod p = (y * 7 + 3 * (k : Int) + 5) % p := Int.tmod_eq_emod_of_nonneg h3
      have h5 := Int.emod_nonneg (y * 7 + 3 * (k : Int) + 5) (b := (p : Int)) (by omega)
      have h6 := Int.emod_lt_of_pos (y * 7 + 3 * (k : Int) + 5) (b := (p : Int)) (by omega)
      go_upto_region 7 with fail
      generalize (y * 7 + 3 * (k : Int) + 5) % (p : Int) = z at *
      clear h4 h3
      go_wp2_with (at_builtin; refine app_one rfl (.tmp 26) (.tmp 28) 22 rfl (base := w.heap.size) Tryd.underlying22 info_int rfl rfl hown rfl rfl (by simp only [maxLen]; omega) (by omega) hsz ?_; intro v4 w4 hown4 hg4 hb4)
      have HH := Lib.hid (HBR.out.trans hb4)
      go_roundw
      case rel =>
        refine ⟨k + 1, L ++ [z], z, by omega, by go_num, rfl, h5, h6, by rw [List.length_append, HLk.out]; rfl, fun t ht => ?_, by simpa [valsI] using hown4, HH.out⟩
        rcases List.mem_append.1 ht with ht | ht
        · exact HLp.out t ht
        · simp at ht; omega
      case measure => simp [intOf]; omega
    · have hkn : k = n := by omega
      obtain ⟨A, c, e, -, -, -⟩ := own_ints hown hL.symm
      subst e
      have HF := Lib.hid (show FillP p n w (.returned (.slice A L.length c)) wr from ⟨A, c, L, rfl, by omega, HLp.out, by rw [hL]; rw [hL] at hown; exact hown, HBR.out⟩)
      clear hkn hown
      go_wp2_with fail
      go_ret
      exact HF.out
end Go.Proofs.YtjckpammcgeloaaDoor
namespace Go.Proofs.YtjckpammcgeloaaDoor
open Go.RowKit

/-- The list of a copy: the values of the first k lie in memory of the call's own. -/
def OwnAt (w : World) (base k : Nat) (v : Value) (H : List HV) (S : List Shr) : Prop :=
  ∀ j, j < S.length → (hvAt H j).1 = hS S j ∧ ∃ B c, (hvAt H j).2 = .slice B (vS S j).length c ∧ IntsP (fun b => if j < k then base ≤ b ∧ v.ownBlock ≠ some b else b < base) w B c (vS S j)
theorem OwnAt.keep {w w' : World} {base k : Nat} {v : Value} {H : List HV} {S : List Shr} (h : OwnAt w base k v H S) (hb : Below w.heap.size w w') : OwnAt w' base k v H S := fun j hj => by
  obtain ⟨e1, B, c, e2, e3⟩ := h j hj
  exact ⟨e1, B, c, e2, e3.keep (Kept.below hb)⟩
theorem OwnAt.step {w W : World} {base k g c0 : Nat} {n : Nat} {H : List HV} {S : List Shr} (h : OwnAt w base k (.slice (some ⟨g, 0, none⟩) n c0) H S) (hl : H.length = S.length) (hk : k < S.length) (hg : base ≤ g) (hgw : g < w.heap.size) (hbs : base ≤ w.heap.size) (hb : Below w.heap.size w W) {B : Option Addr} {c : Nat}
    (hI : IntsP (fun b => w.heap.size ≤ b) W B c (vS S k)) (u : Value) :
    OwnAt (W.setCell ⟨g, k * 2 + 1, none⟩ u) base (k + 1) (.slice (some ⟨g, 0, none⟩) n c0) (H.set k ((hvAt H k).1, .slice B (vS S k).length c)) S := fun j hj => by
  have hs : ∀ b, b ≠ g → (W.setCell ⟨g, k * 2 + 1, none⟩ u).heap[b]? = W.heap[b]? := fun b hb => Below.heap_setCell W _ u b hb
  have hz : W.heap.size ≤ (W.setCell ⟨g, k * 2 + 1, none⟩ u).heap.size := by simp [World.setCell]
  by_cases hjk : j = k
  · subst hjk
    rw [hvAt_set_same _ _ _ (by omega)]
    refine ⟨(h j hj).1, B, c, rfl, ?_⟩
    have h1 := hI.mono (Q := fun b => (base ≤ b ∧ (Value.slice (some ⟨g, 0, none⟩) n c0).ownBlock ≠ some b) ∧ b ≠ g) (fun b _ hb => ⟨⟨by omega, fun e => by have : g = b := Option.some.inj e; omega⟩, by omega⟩)
    have h2 := h1.keep (w' := W.setCell ⟨g, j * 2 + 1, none⟩ u) ⟨hz, fun b hb _ => hs b hb.2⟩
    exact h2.mono (fun b _ hb => by rw [if_pos (by omega)]; exact hb.1)
  · rw [hvAt_set_other _ _ _ _ (by omega)]
    obtain ⟨e1, B', c', e2, e3⟩ := h j hj
    refine ⟨e1, B', c', e2, ?_⟩
    have h1 := e3.keep (w' := W) (Kept.below hb)
    have h2 := h1.keep (w' := W.setCell ⟨g, k * 2 + 1, none⟩ u) ⟨hz, fun b hb _ => hs b (fun e => by
      subst e
      by_cases hj2 : j < k
      · rw [if_pos hj2] at hb; exact hb.2 rfl
      · rw [if_neg hj2] at hb; omega)⟩
    refine h2.mono fun b _ hb => ?_
    by_cases hj2 : j < k
    · rw [if_pos hj2] at hb; rw [if_pos (by omega)]; exact hb
    · rw [if_neg hj2] at hb; rw [if_neg (by omega)]; exact hb

end Go.Proofs.YtjckpammcgeloaaDoor
namespace Go.Proofs.YtjckpammcgeloaaDoor
open Go.RowKit

/-! ### What Apply says of any lists -/
noncomputable def aE (p h : Nat) (S Z : List Shr) : Int := if gdB p h S = true then (if gdB p h Z = true then apE (natL S) (natL Z) else 1) else 1
noncomputable def aT (p h : Nat) (S Z : List Shr) : List ShN := if aE p h S Z = 0 then apT p (natL S) (natL Z) else []
end Go.Proofs.YtjckpammcgeloaaDoor
namespace Go.Proofs.YtjckpammcgeloaaDoor
open Go.RowKit

/-! ### Lists of lists of shares in memory -/
def lsAt (Ls : List (List Shr)) (k : Nat) : List Shr := Ls.getD k []
structure ListsP (P : Nat → Prop) (w : World) (A : Option Addr) (c : Nat) (Ls : List (List Shr)) : Prop where
  at_ : ∀ k, k < Ls.length → ∃ b off B c', A = some ⟨b, off, none⟩ ∧ b < w.heap.size ∧ P b ∧ w.cell? ⟨b, off + k, none⟩ = some (.slice B (lsAt Ls k).length c') ∧ ShP P w B c' (lsAt Ls k)
  ok : IOK A c Ls.length
theorem ListsP.keep {P : Nat → Prop} {w w' : World} {A : Option Addr} {c : Nat} {Ls : List (List Shr)} (h : ListsP P w A c Ls) (hk : Kept P w w') : ListsP P w' A c Ls := ⟨fun k hl => by
  obtain ⟨b, off, B, c', hA, hlt, hP, h1, h2⟩ := h.at_ k hl
  exact ⟨b, off, B, c', hA, Nat.lt_of_lt_of_le hlt hk.size, hP, (World.cell?_of_block (w := w) (hk.block b hP hlt)).trans h1, h2.keep hk⟩, h.ok⟩
theorem ListsP.below {P : Nat → Prop} {w w' : World} {A : Option Addr} {c : Nat} {Ls : List (List Shr)} (h : ListsP P w A c Ls) (hb : Below w.heap.size w w') : ListsP P w' A c Ls := h.keep (Kept.below hb)
theorem ListsP.mono {P Q : Nat → Prop} {w : World} {A : Option Addr} {c : Nat} {Ls : List (List Shr)} (h : ListsP P w A c Ls) (hPQ : ∀ b, b < w.heap.size → P b → Q b) : ListsP Q w A c Ls := ⟨fun k hk => by
  obtain ⟨b, off, B, c', hA, hlt, hP, h1, h2⟩ := h.at_ k hk
  exact ⟨b, off, B, c', hA, hlt, hPQ b hlt hP, h1, h2.mono hPQ⟩, h.ok⟩
def ShortLs (Ls : List (List Shr)) : Prop := ∀ k, k < Ls.length → Short (lsAt Ls k) ∧ (lsAt Ls k).length ≤ 100000

/-! ### What Sum says -/
noncomputable def sumR (p h : Nat) : List Shr → List (List Shr) → List Shr × Int
  | S, [] => (S, 0)
  | S, Z :: r => if aE p h S Z = 0 then sumR p h (shL (aT p h S Z)) r else ([], aE p h S Z)
noncomputable def suE (p h : Nat) (Ls : List (List Shr)) : Int := if Ls.length = 0 then 5 else if gdB p h (lsAt Ls 0) = true then (sumR p h (lsAt Ls 0) (Ls.drop 1)).2 else 1
noncomputable def suL (p h : Nat) (Ls : List (List Shr)) : List Shr := if Ls.length = 0 then [] else if gdB p h (lsAt Ls 0) = true then (sumR p h (lsAt Ls 0) (Ls.drop 1)).1 else []
theorem drop_at {Ls : List (List Shr)} {k : Nat} (h : k < Ls.length) : Ls.drop k = lsAt Ls k :: Ls.drop (k + 1) := by
  rw [List.drop_eq_getElem_cons h]; simp [lsAt, List.getD_eq_getElem?_getD, h]
theorem vN_natL {S : List Shr} {k : Nat} : (vN (natL S) k).length = (vS S k).length := by
  unfold vN vS natL
  simp only [List.getD_eq_getElem?_getD, List.getElem?_map]
  cases S[k]? with
  | none => rfl
  | some s => simp [natS]
theorem shortV {S : List Shr} (h : Short S) (k : Nat) : (vS S k).length ≤ 1048576 := by
  rcases Nat.lt_or_ge k S.length with hk | hk
  · exact h k hk
  · simp [vS, List.getD_eq_getElem?_getD, List.getElem?_eq_none hk]
theorem aT_short {p h : Nat} {S Z : List Shr} (hS : Short S) (hZ : Short Z) : Short (shL (aT p h S Z)) := by
  unfold aT
  split
  · refine short_shL fun k hk => ?_
    rw [apT_len] at hk
    rw [(apT_at hk).2, linN_len, vN_natL, vN_natL]
    have := shortV hS k
    have := shortV hZ (apI (natL Z) (hN (natL S) k))
    omega
  · exact fun k hk => absurd hk (by simp [shL])
theorem aT_len {p h : Nat} {S Z : List Shr} (he : aE p h S Z = 0) : (shL (aT p h S Z)).length = S.length := by
  unfold aT; rw [if_pos he, shL_len, apT_len, natL_len]

end Go.Proofs.YtjckpammcgeloaaDoor
namespace Go.Proofs.YtjckpammcgeloaaDoor
open Go.RowKit

theorem Full.gd {p n h : Nat} {a : List Nat} {N : List ShN} (H : Full p n h a N) (hp : 1 ≤ p) (hm : a.length ≤ 2048) : gdB p h (shL N) = true := (gdB_yes (gd_back (H.made.good hp hm))).symm
theorem Full.short {p n h : Nat} {a : List Nat} {N : List ShN} (H : Full p n h a N) (hm : a.length ≤ 1048576) : Short (shL N) := H.made.short hm
theorem ap_full {p n h : Nat} {a b : List Nat} {N M : List ShN} (P : PlanN p n h) (H : Full p n h a N) (K : Full p n h b M) (hab : a.length = b.length) (hm : a.length ≤ 2048) :
    aE p h (shL N) (shL M) = 0 ∧ aT p h (shL N) (shL M) = plusT p N M := by
  have hl : M.length = N.length := K.len.trans H.len.symm
  have gM := K.made.good P.p1 (by omega)
  have hix : ∀ k, k < N.length → hasH M (hN N k) = true ∧ apI M (hN N k) = k := fun k hk => by
    have := apI_of gM (show k < M.length by omega)
    rw [K.ord k (by omega), ← H.ord k hk] at this; exact this
  have hok : apOk N M = true := by
    unfold apOk anyN
    rw [Bool.not_eq_true', List.any_eq_false]
    intro k hk
    simp [(hix k (List.mem_range.1 hk)).1]
  have hq : N.length = 0 ∨ (vN N 0).length = (vN M 0).length := by
    rcases Nat.eq_zero_or_pos N.length with h0 | h0
    · exact .inl h0
    · exact .inr (by rw [H.made.vlen h0, K.made.vlen (by omega), hab])
  have he : apE N M = 0 := by unfold apE; rw [if_pos hok, if_pos hq]
  have hE : aE p h (shL N) (shL M) = 0 := by unfold aE; rw [H.gd P.p1 hm, K.gd P.p1 (by omega), natL_shL, natL_shL]; exact he
  refine ⟨hE, ?_⟩
  unfold aT
  rw [if_pos hE, natL_shL, natL_shL]
  unfold apT plusT
  refine List.map_congr_left fun k hk => ?_
  rw [(hix k (List.mem_range.1 hk)).2]
theorem plan_732 : PlanN 7 2 3 := PlanN.mk' prime_7 (by omega) (by omega) (by omega) (by omega) (by omega)
def zaN : List ShN := dealN 7 2 3 (List.replicate 1 0) [2]
def laN : List ShN := dealN 7 2 3 [3] [1]
theorem za_full : Full 7 2 3 (List.replicate 1 0) zaN := Full.deal plan_732 (by simp) (by simp)
theorem la_full : Full 7 2 3 [3] laN := Full.deal plan_732 (by simp) (by simp)
theorem lz_full : Full 7 2 3 [3] (plusT 7 laN zaN) := by
  have := la_full.plus plan_732 za_full (by simp)
  rw [show linN 7 [3] (List.replicate 1 0) 1 = [3] from by decide +kernel] at this
  exact this
end Go.Proofs.YtjckpammcgeloaaDoor
namespace Go.Proofs.YtjckpammcgeloaaDoor
open Go.RowKit

theorem lin_zeros {p m : Nat} (hp : 1 ≤ p) : linN p (List.replicate m 0) (List.replicate m 0) 1 = List.replicate m 0 := by
  have := lin_zero (p := p) (a := List.replicate m 0) (fun x hx => by rw [(List.mem_replicate.1 hx).2]; omega)
  rw [List.length_replicate] at this; exact this
theorem Full.plus0 {p n h m : Nat} {N M : List ShN} (P : PlanN p n h) (H : Full p n h (List.replicate m 0) N) (K : Full p n h (List.replicate m 0) M) : Full p n h (List.replicate m 0) (plusT p N M) := by
  have := H.plus P K rfl
  rw [lin_zeros P.p1] at this; exact this
theorem Full.plusZ {p n h : Nat} {a : List Nat} {N M : List ShN} (P : PlanN p n h) (H : Full p n h a N) (K : Full p n h (List.replicate a.length 0) M) (ha : ∀ x ∈ a, x < p) : Full p n h a (plusT p N M) := by
  have := H.plus P K (by rw [List.length_replicate])
  rw [lin_zero ha] at this; exact this
/-- The sum of several lists of zeros. -/
def sumN (p : Nat) : List ShN → List (List ShN) → List ShN
  | N, [] => N
  | N, M :: r => sumN p (plusT p N M) r
theorem sum_zeros {p n h m : Nat} (P : PlanN p n h) (hm : m ≤ 2048) : ∀ (Ms : List (List ShN)) (N : List ShN), Full p n h (List.replicate m 0) N → (∀ M ∈ Ms, Full p n h (List.replicate m 0) M) →
    sumR p h (shL N) (Ms.map shL) = (shL (sumN p N Ms), 0) ∧ Full p n h (List.replicate m 0) (sumN p N Ms)
  | [], N, H, _ => ⟨rfl, H⟩
  | M :: r, N, H, K => by
    have hM := K M (by simp)
    obtain ⟨e1, e2⟩ := ap_full P H hM rfl (by rw [List.length_replicate]; exact hm)
    have ih := sum_zeros P hm r (plusT p N M) (H.plus0 P hM) (fun X hX => K X (by simp [hX]))
    simp only [List.map_cons, sumR, sumN]
    rw [if_pos e1, e2]
    exact ih
theorem su_zeros {p n h m : Nat} (P : PlanN p n h) (hm : m ≤ 2048) (N : List ShN) (Ms : List (List ShN)) (H : Full p n h (List.replicate m 0) N) (K : ∀ M ∈ Ms, Full p n h (List.replicate m 0) M) :
    suE p h ((N :: Ms).map shL) = 0 ∧ suL p h ((N :: Ms).map shL) = shL (sumN p N Ms) ∧ Full p n h (List.replicate m 0) (sumN p N Ms) := by
  obtain ⟨e1, e2⟩ := sum_zeros P hm Ms N H K
  have hg : gdB p h (lsAt ((N :: Ms).map shL) 0) = true := H.gd P.p1 (by rw [List.length_replicate]; exact hm)
  refine ⟨?_, ?_, e2⟩
  · unfold suE; rw [if_neg (by simp), if_pos hg]
    show (sumR p h (shL N) (Ms.map shL)).2 = 0
    rw [e1]
  · unfold suL; rw [if_neg (by simp), if_pos hg]
    show (sumR p h (shL N) (Ms.map shL)).1 = _
    rw [e1]
/-- Two lists in a literal. -/
theorem lists_two {P : Nat → Prop} {w : World} {g h : Nat} {A B : Option Addr} {ca cb : Nat} {N M : List ShN} (hg : w.heap[g]? = some (.cells #[.slice A h ca, .slice B h cb] 33 (0, 0))) (hP : P g) (hA : ShP P w A ca (shL N)) (hB : ShP P w B cb (shL M)) (hN : N.length = h) (hM : M.length = h) :
    ListsP P w (some ⟨g, 0, none⟩) 2 (([N, M]).map shL) := by
  refine ⟨fun k hk => ?_, ⟨Nat.le_refl _, by unfold maxLen; omega, (fun e => by cases e), .inr (fun a e => by injection e with e; subst e; rfl)⟩⟩
  have hk : k = 0 ∨ k = 1 := by simp at hk; omega
  rcases hk with rfl | rfl
  · exact ⟨g, 0, A, ca, rfl, blk_lt hg, hP, by rw [cell_of_row w g _ _ _ (0, 0) hg]; show some _ = some (Value.slice A (shL N).length ca); rw [shL_len, hN]; rfl, hA⟩
  · exact ⟨g, 0, B, cb, rfl, blk_lt hg, hP, by rw [cell_of_row w g _ _ _ (0, 0) hg]; show some _ = some (Value.slice B (shL M).length cb); rw [shL_len, hM]; rfl, hB⟩
theorem fadd_swap (p l a b : Nat) : fadd p l (fmul p 1 (fadd p a (fmul p 1 b))) = fadd p (fadd p l (fmul p 1 b)) (fmul p 1 a) := by
  unfold fadd fmul
  simp only [Nat.one_mul, Nat.add_mod_mod, Nat.mod_add_mod, Nat.mod_mod]
  congr 1; omega
theorem lin_swap {p : Nat} {L A B : List Nat} (h1 : A.length = L.length) (h2 : B.length = L.length) : linN p L (linN p A B 1) 1 = linN p (linN p L B 1) A 1 := by
  refine extN (by simp only [linN_len]; omega) fun i hi => ?_
  have hi' : i < L.length := by simp only [linN_len] at hi; omega
  rw [linN_nth (by simp only [linN_len]; omega), linN_nth (by omega), linN_nth (by simp only [linN_len]; omega), linN_nth (by omega)]
  exact fadd_swap _ _ _ _
theorem plus_swap {p n h : Nat} {s a b : List Nat} {N Z Y : List ShN} (H : Full p n h s N) (K : Full p n h a Z) (J : Full p n h b Y) (h1 : a.length = s.length) (h2 : b.length = s.length) : plusT p N (plusT p Z Y) = plusT p (plusT p N Y) Z := by
  refine shl_ext (by rw [plusT_len, plusT_len, plusT_len]) fun k hk => ?_
  rw [plusT_len] at hk
  have hkZ : k < Z.length := by rw [K.len, ← H.len]; exact hk
  have hkY : k < Y.length := by rw [J.len, ← H.len]; exact hk
  rw [(plusT_at hk).1, (plusT_at hk).2, (plusT_at (show k < (plusT p N Y).length by rw [plusT_len]; exact hk)).1, (plusT_at (show k < (plusT p N Y).length by rw [plusT_len]; exact hk)).2, (plusT_at hk).1, (plusT_at hk).2, (plusT_at hkZ).2]
  exact ⟨rfl, lin_swap (by rw [K.made.vlen hkZ, H.made.vlen hk, h1]) (by rw [J.made.vlen hkY, H.made.vlen hk, h2])⟩
end Go.Proofs.YtjckpammcgeloaaDoor
namespace Go.Proofs.YtjckpammcgeloaaDoor
open Go.RowKit

theorem info_shares : (Tryd.prog.info? 33).map (fun i => (i.zero, i.size, i.bytes)) = some (some (.slice none 0 0), 1, 24) := by kernel_rfl
theorem info_ints : (Tryd.prog.info? 22).map (fun i => (i.zero, i.size, i.bytes)) = some (some (.slice none 0 0), 1, 24) := by kernel_rfl
/-- What is said of a value in memory of which only the blocks that satisfy P count. -/
structure PhiOK {α : Type} (Φ : (Nat → Prop) → World → Value → α → Prop) : Prop where
  keep : ∀ {P : Nat → Prop} {w w' : World} {v : Value} {x : α}, Φ P w v x → Kept P w w' → Φ P w' v x
  mono : ∀ {P Q : Nat → Prop} {w : World} {v : Value} {x : α}, Φ P w v x → (∀ b, b < w.heap.size → P b → Q b) → Φ Q w v x
def PhiS (P : Nat → Prop) (w : World) (v : Value) (S : List Shr) : Prop := ∃ B c, v = .slice B S.length c ∧ ShP P w B c S
theorem phiS : PhiOK PhiS := ⟨fun ⟨B, c, e, h⟩ hk => ⟨B, c, e, h.keep hk⟩, fun ⟨B, c, e, h⟩ hq => ⟨B, c, e, h.mono hq⟩⟩
def PhiN (P : Nat → Prop) (w : World) (v : Value) (L : List Nat) : Prop := ∃ B c, v = .slice B L.length c ∧ IntsP P w B c (ofN L)
theorem phiN : PhiOK PhiN := ⟨fun ⟨B, c, e, h⟩ hk => ⟨B, c, e, h.keep hk⟩, fun ⟨B, c, e, h⟩ hq => ⟨B, c, e, h.mono hq⟩⟩
structure RowsG {α : Type} (Φ : (Nat → Prop) → World → Value → α → Prop) (e : TypeId) (Q : Nat → Prop) (w : World) (base : Nat) (v : Value) (xs : List α) : Prop where
  ex : ∃ Vs : List Value, w.ownsRow base e 1 v Vs.length Vs ∧ Vs.length = xs.length ∧ ∀ k (h : k < xs.length), ∃ u, Vs[k]? = some u ∧ Φ (fun b => Q b ∧ v.ownBlock ≠ some b) w u xs[k]
theorem RowsG.nil {α : Type} (Φ : (Nat → Prop) → World → Value → α → Prop) (e : TypeId) (Q : Nat → Prop) (w : World) (base : Nat) : RowsG Φ e Q w base (.slice none 0 0) [] :=
  ⟨[], World.ownsRow_nil _ _ _ _, rfl, fun k h => absurd h (by simp)⟩
theorem RowsG.kept {α : Type} {Φ : (Nat → Prop) → World → Value → α → Prop} {e : TypeId} {Q : Nat → Prop} {w w' : World} {base : Nat} {v : Value} {xs : List α} {row : Option Nat} (h : RowsG Φ e Q w base v xs) (hΦ : PhiOK Φ) (hg : w.grownBy w' row) (h1 : v.ownBlock = none ∨ v.ownBlock ≠ row) (h2 : ∀ b, Q b → row ≠ some b) : RowsG Φ e Q w' base v xs := by
  obtain ⟨Vs, e1, e2, e3⟩ := h.ex
  refine ⟨Vs, World.ownsRow.kept e1 hg h1, e2, fun k hk => ?_⟩
  obtain ⟨u, f1, f2⟩ := e3 k hk
  exact ⟨u, f1, hΦ.keep f2 ⟨hg.size, fun b hb hlt => hg.block b hlt (fun e => h2 b hb.1 e.symm)⟩⟩
theorem RowsG.below {α : Type} {Φ : (Nat → Prop) → World → Value → α → Prop} {e : TypeId} {Q : Nat → Prop} {w w' : World} {base : Nat} {v : Value} {xs : List α} (h : RowsG Φ e Q w base v xs) (hΦ : PhiOK Φ) (hb : Below w.heap.size w w') : RowsG Φ e Q w' base v xs := by
  obtain ⟨Vs, e1, e2, e3⟩ := h.ex
  refine ⟨Vs, own_below e1 hb, e2, fun k hk => ?_⟩
  obtain ⟨u, f1, f2⟩ := e3 k hk
  exact ⟨u, f1, hΦ.keep f2 (Kept.below hb)⟩
theorem RowsG.mv {α : Type} {Φ : (Nat → Prop) → World → Value → α → Prop} {e : TypeId} {Q : Nat → Prop} {w w' : World} {base D : Nat} {v : Value} {xs : List α} (h : RowsG Φ e Q w base v xs) (hΦ : PhiOK Φ) (hg : w.grownBy w' (some D)) (hD : D < base) (hQ : ∀ b, Q b → b ≠ D) : RowsG Φ e Q w' base v xs := by
  obtain ⟨Vs, e1, e2, e3⟩ := h.ex
  refine RowsG.kept ⟨Vs, e1, e2, e3⟩ hΦ hg ?_ (fun b hb e => hQ b hb (Option.some.inj e).symm)
  rcases hv : v.ownBlock with _ | b
  · exact .inl rfl
  · exact .inr (fun e => by injection e with e; have := (World.ownsRow.lt e1 b hv).1; omega)
/-- One more, that was made behind base, and lies not in the row. -/
theorem RowsG.more {α : Type} {Φ : (Nat → Prop) → World → Value → α → Prop} {e : TypeId} {w w' : World} {base : Nat} {v v' u : Value} {xs : List α} {x : α} {Vs : List Value} (hΦ : PhiOK Φ)
    (e2 : Vs.length = xs.length) (e3 : ∀ k (h : k < xs.length), ∃ u, Vs[k]? = some u ∧ Φ (fun b => base ≤ b ∧ v.ownBlock ≠ some b) w u xs[k])
    (hu : Φ (fun b => base ≤ b ∧ v.ownBlock ≠ some b) w u x) (hown : w'.ownsRow base e 1 v' (Vs.length + 1) (Vs ++ [u])) (hg : w.grownBy w' v.ownBlock) (hv : ∀ b, v'.ownBlock = some b → v.ownBlock = some b ∨ w.heap.size ≤ b) : RowsG Φ e (fun b => base ≤ b) w' base v' (xs ++ [x]) := by
  have key : ∀ {y : α} {t : Value}, Φ (fun b => base ≤ b ∧ v.ownBlock ≠ some b) w t y → Φ (fun b => base ≤ b ∧ v'.ownBlock ≠ some b) w' t y := fun hI =>
    hΦ.mono (hΦ.keep (hΦ.mono (Q := fun b => (base ≤ b ∧ v'.ownBlock ≠ some b) ∧ v.ownBlock ≠ some b) hI (fun b hlt hb => ⟨⟨hb.1, fun e => by
      rcases hv b e with h | h
      · exact hb.2 h
      · omega⟩, hb.2⟩)) ⟨hg.size, fun b hb hlt => hg.block b hlt (fun e => hb.2 e.symm)⟩) (fun b _ hb => hb.1)
  refine ⟨Vs ++ [u], by rw [List.length_append]; exact hown, by simp [e2], fun k hk => ?_⟩
  rcases Nat.lt_or_ge k xs.length with h | h
  · obtain ⟨t, f1, f2⟩ := e3 k h
    refine ⟨t, by rw [List.getElem?_append_left (by omega)]; exact f1, ?_⟩
    rw [List.getElem_append_left h]; exact key f2
  · obtain rfl : k = xs.length := by simp at hk; omega
    refine ⟨u, by rw [← e2]; simp, ?_⟩
    rw [List.getElem_append_right (by omega)]
    simpa using key hu
theorem RowsG.read {α : Type} {Φ : (Nat → Prop) → World → Value → α → Prop} {e : TypeId} {Q : Nat → Prop} {w : World} {base : Nat} {v : Value} {xs : List α} (h : RowsG Φ e Q w base v xs) (hΦ : PhiOK Φ) :
    ∃ A c, v = .slice A xs.length c ∧ IOK A c xs.length ∧ ∀ k (h : k < xs.length), ∃ b off u, A = some ⟨b, off, none⟩ ∧ b < w.heap.size ∧ base ≤ b ∧ w.cell? ⟨b, off + k, none⟩ = some u ∧ Φ Q w u xs[k] := by
  obtain ⟨Vs, e1, e2, e3⟩ := h.ex
  rcases e1.2 with ⟨rfl, h0⟩ | ⟨g, cap, cur, rfl, hg, hh, hnc, hcm, hcs, htk⟩
  · have : xs = [] := List.eq_nil_of_length_eq_zero (by omega)
    subst this
    exact ⟨none, 0, rfl, IOK.none0, fun k hk => absurd hk (by simp)⟩
  · refine ⟨some ⟨g, 0, none⟩, cap, by rw [e2], ⟨by rw [← e2]; exact hnc, hcm, (fun e => by cases e), .inr (fun a e => by injection e with e; subst e; rfl)⟩, fun k hk => ?_⟩
    obtain ⟨u, f1, f2⟩ := e3 k hk
    refine ⟨g, 0, u, rfl, blk_lt hh, hg, ?_, hΦ.mono f2 (fun b _ hb => hb.1)⟩
    have := World.ownsRow.cellAt e1 (j := k) (by omega)
    rw [Nat.zero_add, this, f1]
theorem RowsG.lists {e : TypeId} {Q : Nat → Prop} {w : World} {base : Nat} {v : Value} {Ns : List (List ShN)} (h : RowsG PhiS e Q w base v (Ns.map shL)) : ∃ A c, v = .slice A Ns.length c ∧ ListsP (fun b => base ≤ b ∨ Q b) w A c (Ns.map shL) := by
  obtain ⟨A, c, rfl, h1, h2⟩ := h.read phiS
  refine ⟨A, c, by rw [List.length_map], ⟨fun k hk => ?_, h1⟩⟩
  obtain ⟨b, off, u, hA, hb, hbs, hc, B, c', rfl, hS⟩ := h2 k hk
  have : lsAt (Ns.map shL) k = (Ns.map shL)[k] := by
    have hk' : k < Ns.length := by simpa using hk
    unfold lsAt; simp [List.getD_eq_getElem?_getD, hk']
  rw [this]
  exact ⟨b, off, B, c', hA, hb, .inl hbs, hc, hS.mono (fun b _ hb => .inr hb)⟩
theorem RowsG.lt1 {α : Type} {Φ : (Nat → Prop) → World → Value → α → Prop} {e : TypeId} {Q : Nat → Prop} {w : World} {base : Nat} {v : Value} {xs : List α} (h : RowsG Φ e Q w base v xs) : ∀ b, v.ownBlock = some b → b < w.heap.size := fun b hb => by
  obtain ⟨Vs, e1, -, -⟩ := h.ex
  exact (World.ownsRow.lt e1 b hb).2
/-- append of one value that fills one cell. -/
theorem app_val {ops : Array Oper} {rest : List Oper} {o : Oper} {a : Act} {Q : Exit → Act → World → Prop} (hgd : o.guard = none) (s x : Operand) (t : TypeId)
    (ho : o.op = .call { callee := .builtin .append, args := #[s, x], argTypes := #[t, t] })
    {base : Nat} {e : TypeId} {z : Value} {bytes : Nat} (ht : Tryd.prog.underlying t = some (.slice e)) (hinfo : (Tryd.prog.info? e).map (fun i => (i.zero, i.size, i.bytes)) = some (some z, 1, bytes)) (hzs : z.cells.size = 1)
    {w : World} {v : Value} {Vs : List Value} {u : Value} (hs : a.eval s = v) (hown : w.ownsRow base e 1 v Vs.length Vs)
    (hx : a.eval x = .slice (some ⟨w.heap.size, 0, none⟩) 1 1) (h1 : u.oneCell' = true) (hl : Vs.length ≤ 1048576) (hb24 : bytes ≤ 32) (hb8 : 0 < bytes) (hbase : base ≤ w.heap.size)
    (h : ∀ v' w', w'.ownsRow base e 1 v' (Vs.length + 1) (Vs ++ [u]) → w.grownBy w' v.ownBlock → Below base w w' → (∀ b, v'.ownBlock = some b → v.ownBlock = some b ∨ w.heap.size ≤ b) → wpList Tryd.prog ops Q rest (a.put o.dst v') w') :
    wpList Tryd.prog ops Q (o :: rest) a (w.alloc (.cells #[u] e)) := by
  obtain ⟨i0, hi, hz0, hz1, hz2⟩ := info_parts hinfo
  have hbb : (Vs.length + 1) * bytes ≤ 1048577 * 32 := Nat.mul_le_mul (by omega) hb24
  refine wpList_append_own_at _ hgd s x t ho base e i0 z 1 bytes ht hi hz0 hz1 hz2 hzs (by omega) v Vs.length Vs hs (hown.alloc _) ⟨w.heap.size, 0, none⟩ 1 1 [u] hx rfl (fun j y hj => ?_) (fun y hy => by simp at hy; subst hy; exact h1) (by unfold maxLen; omega) (by omega) (by simp; omega) ?_
  · rcases j with _ | j
    · simp at hj; subst hj
      simp [Addr.add]
    · simp at hj
  · intro v' w' h2 h3 _ h5
    have hg : w.grownBy w' v.ownBlock := ⟨h3.os, h3.tape, h3.output, Nat.le_trans (by simp) h3.size, fun k hk hne => (h3.block k (by simp; omega) hne).trans (Below.heap_alloc w _ k hk)⟩
    refine h v' w' h2 hg ((Below.refl _ _).grown hg hbase (fun k hk => (hown.lt k hk).1)) (fun b e => ?_)
    rcases h5 with h5 | h5
    · exact .inl (h5 ▸ e)
    · rw [h5] at e; injection e with e; right; rw [size_alloc] at e; omega
end Go.Proofs.YtjckpammcgeloaaDoor
namespace Go.Proofs.YtjckpammcgeloaaDoor
open Go.RowKit

/-! ### givers -/
def GvAt (h : Int) (L : List Int) (k : Nat) : Prop := 1 ≤ nth L k ∧ nth L k ≤ h ∧ ∀ j, j < k → nth L j ≠ nth L k
noncomputable def gvB (h : Int) (L : List Int) : Bool := @decide (∀ k, k < L.length → GvAt h L k) (Classical.propDecidable _)
theorem gvB_no {h : Int} {L : List Int} (k : Nat) (hk : k < L.length) (H : ¬ GvAt h L k) : false = gvB h L := (@decide_eq_false _ (Classical.propDecidable _) (fun g => H (g k hk))).symm
theorem gvB_yes {h : Int} {L : List Int} (H : ∀ k, k < L.length → GvAt h L k) : true = gvB h L := (@decide_eq_true _ (Classical.propDecidable _) H).symm
def asS (L : List Int) : List Shr := L.map fun x => (x, [])
theorem hS_asS {L : List Int} {k : Nat} (hk : k < L.length) : hS (asS L) k = nth L k := by simp [asS, hS, nth, List.getD_eq_getElem?_getD, hk]
end Go.Proofs.YtjckpammcgeloaaDoor
namespace Go.Proofs.YtjckpammcgeloaaDoor
open Go.RowKit

def ftE (p h x : Int) (L : List Int) (x0 : Int) (l0 : Nat) : Bool := stB p h x L && (decide (x = x0) && decide (L.length = l0))
theorem ftE_st {p h x : Int} {L : List Int} {x0 : Int} {l0 : Nat} (H : stB p h x L = false) : true = !ftE p h x L x0 l0 := by unfold ftE; rw [H]; rfl
theorem ftE_x {p h x : Int} {L : List Int} {x0 : Int} {l0 : Nat} (H : ¬ x = x0) : true = !ftE p h x L x0 l0 := by unfold ftE; rw [decide_eq_false H]; simp
theorem ftE_l {p h x : Int} {L : List Int} {x0 : Int} {l0 : Nat} (H : ¬ L.length = l0) : true = !ftE p h x L x0 l0 := by unfold ftE; rw [decide_eq_false H]; simp
theorem ftE_ok {p h x : Int} {L : List Int} {x0 : Int} {l0 : Nat} (H1 : stB p h x L = true) (H2 : x = x0) (H3 : L.length = l0) : false = !ftE p h x L x0 l0 := by unfold ftE; rw [H1, decide_eq_true H2, decide_eq_true H3]; rfl
/-- All shares stand, are one holder's, and have equally many values. -/
def fitsB (p h : Int) (S : List Shr) : Bool := !anyN (fun k => !ftE p h (hS S k) (vS S k) (hS S 0) (vS S 0).length) S.length
end Go.Proofs.YtjckpammcgeloaaDoor
namespace Go.Proofs.YtjckpammcgeloaaDoor
open Go.RowKit

/-! ### Split -/
end Go.Proofs.YtjckpammcgeloaaDoor
namespace Go.Proofs.YtjckpammcgeloaaDoor
open Go.RowKit

/-- Sums of lists, each times its weight. -/
def joinV (p : Nat) (ws : List Nat) (Ls : Nat → List Nat) : Nat → List Nat
  | 0 => []
  | t + 1 => linN p (joinV p ws Ls t) (Ls t) (nthN ws t)
theorem joinV_lt {p : Nat} (hp : 1 ≤ p) (ws : List Nat) (Ls : Nat → List Nat) : ∀ t, ∀ x ∈ joinV p ws Ls t, x < p
  | 0 => by simp [joinV]
  | t + 1 => linN_lt hp
theorem joinV_len {p m : Nat} {ws : List Nat} {Ls : Nat → List Nat} : ∀ t, (∀ i, i < t → (Ls i).length = m) → 0 < t → (joinV p ws Ls t).length = m
  | 0, _, h => absurd h (by omega)
  | t + 1, hL, _ => by
    simp only [joinV]
    rw [linN_len, hL t (by omega)]
    rcases Nat.eq_zero_or_pos t with h0 | h0
    · subst h0; simp [joinV]
    · rw [joinV_len t (fun i hi => hL i (by omega)) h0, Nat.max_self]
theorem joinV_le {p m : Nat} {ws : List Nat} {Ls : Nat → List Nat} : ∀ t, (∀ i, i < t → (Ls i).length ≤ m) → (joinV p ws Ls t).length ≤ m
  | 0, _ => by simp [joinV]
  | t + 1, hL => by
    simp only [joinV]
    rw [linN_len]
    have := joinV_le t (fun i hi => hL i (by omega)) (p := p) (ws := ws)
    have := hL t (by omega)
    omega
theorem keep_set1 {w : World} {g a : Nat} {u : Value} {q : Addr} {x : Value} (hq : q.block ≠ g) (h : w.cell? q = some x) : (w.setCell ⟨g, a, none⟩ u).cell? q = some x :=
  (World.cell?_setCell_other _ _ _ _ (fun e => hq (by subst e; rfl))).trans h
theorem nats_set1 {w : World} {g a : Nat} {u : Value} {A : Option Addr} {L : List Nat} (h : NatsAt w A L) (hA : ∀ b off, A = some ⟨b, off, none⟩ → b ≠ g) : NatsAt (w.setCell ⟨g, a, none⟩ u) A L := fun k hk => by
  obtain ⟨b1, off, e, hlt, hc⟩ := h k hk
  exact ⟨b1, off, e, by simpa [World.setCell] using hlt, (World.cell?_setCell_other _ _ _ _ (fun e2 => hA b1 off e (by injection e2 with e3 _; exact e3.symm))).trans hc⟩
/-- Parts of one holder, with equally many elements. -/
structure Parts (p h' y m : Nat) (Q : List ShN) : Prop where
  hold : ∀ k, k < Q.length → hN Q k = y
  lo : 1 ≤ y
  hi : y ≤ h'
  len : ∀ k, k < Q.length → (vN Q k).length = m
  lt : ∀ k, k < Q.length → ∀ x ∈ vN Q k, x < p
theorem Parts.fits {p h' y m : Nat} {Q : List ShN} (H : Parts p h' y m Q) : fitsB p h' (shL Q) = true := by
  unfold fitsB
  rw [Bool.not_eq_true']
  unfold anyN
  rw [List.any_eq_false]
  intro k hk
  have hk := List.mem_range.1 hk
  rw [shL_len] at hk
  have e := ftE_ok (p := p) (h := h') (x := hS (shL Q) k) (L := vS (shL Q) k) (x0 := hS (shL Q) 0) (l0 := (vS (shL Q) 0).length) (by
    rw [hS_shL hk, vS_shL, H.hold k hk, ← stB_in (by have := H.lo; omega) (by have := H.hi; omega)]; exact nat_inside (H.lt k hk)) (by rw [hS_shL hk, hS_shL (show 0 < Q.length by omega), H.hold k hk, H.hold 0 (by omega)]) (by rw [vS_shL, vS_shL, len_ofN, len_ofN, H.len k hk, H.len 0 (by omega)])
  rw [← e]; simp
theorem gv_nat {h : Nat} {hs : List Nat} (hn : hs.Nodup) (hr : ∀ x ∈ hs, 1 ≤ x ∧ x ≤ h) : gvB h (ofN hs) = true := by
  refine (gvB_yes fun k hk => ?_).symm
  rw [len_ofN] at hk
  have h1 := hr _ (nthN_mem hk)
  refine ⟨by rw [nth_ofN]; omega, by rw [nth_ofN]; omega, fun j hj e => ?_⟩
  rw [nth_ofN, nth_ofN] at e
  have e : nthN hs j = nthN hs k := by omega
  rw [nthN_eq hk, nthN_eq (show j < hs.length by omega)] at e
  have := List.pairwise_iff_getElem.1 hn j k (by omega) hk hj
  exact this e

end Go.Proofs.YtjckpammcgeloaaDoor
namespace Go.Proofs.YtjckpammcgeloaaDoor
open Go.RowKit

theorem joinV_nth {p m : Nat} {ws : List Nat} {P : Nat → Nat → List Nat} {y : Nat} (hp : 1 ≤ p) : ∀ t, ∀ e, e < m →
    nthN (joinV p ws (fun i => (List.range m).map fun e => evN p (P i e) y) t) e = evN p (joinV p ws (fun i => P i e) t) y
  | 0, e, _ => by simp [joinV, nthN, evN]
  | t + 1, e, he => by
    simp only [joinV]
    rw [ev_lin hp, linN_nth (by simp; omega), joinV_nth hp t e he, show nthN ((List.range m).map fun e => evN p (P t e) y) e = evN p (P t e) y from by rw [nthN_eq (by simpa using he)]; simp]
theorem joinV_ev {p m : Nat} {ws : List Nat} {P : Nat → Nat → List Nat} {y t : Nat} (hp : 1 ≤ p) (ht : 0 < t) :
    joinV p ws (fun i => (List.range m).map fun e => evN p (P i e) y) t = (List.range m).map fun e => evN p (joinV p ws (fun i => P i e) t) y := by
  have hl : (joinV p ws (fun i => (List.range m).map fun e => evN p (P i e) y) t).length = m := joinV_len t (fun i _ => by simp) ht
  refine extN (by rw [hl]; simp) fun e he => ?_
  rw [hl] at he
  rw [joinV_nth hp t e he, nthN_eq (by simpa using he)]; simp
theorem joinV_zero {p : Nat} {ws : List Nat} {P : Nat → List Nat} {ys : List Nat} (hp : 1 ≤ p) : ∀ t, (∀ i, i < t → evN p (P i) 0 = nthN ys i) → evN p (joinV p ws P t) 0 = wgN p ws ys t
  | 0, _ => rfl
  | t + 1, h => by
    simp only [joinV, wgN]
    rw [ev_lin hp, joinV_zero hp t (fun i hi => h i (by omega)), h t (by omega)]
theorem joinV_congr {p : Nat} {ws : List Nat} {A B : Nat → List Nat} : ∀ t, (∀ i, i < t → A i = B i) → joinV p ws A t = joinV p ws B t
  | 0, _ => rfl
  | t + 1, h => by simp only [joinV]; rw [joinV_congr t (fun i hi => h i (by omega)), h t (by omega)]

/-- The parts that holder k + 1 of the new plan gets: of each old share M, dealt with its random numbers. -/
def givenN (p n' h' : Nat) (M : List ShN) (rs : List (List Nat)) (t k : Nat) : List ShN := (List.range t).map fun i => (k + 1, vN (dealN p n' h' (vN M i) (rs.getD i [])) k)
theorem givenN_len (p n' h' : Nat) (M : List ShN) (rs : List (List Nat)) (t k : Nat) : (givenN p n' h' M rs t k).length = t := by simp [givenN]
theorem givenN_at {p n' h' : Nat} {M : List ShN} {rs : List (List Nat)} {t k i : Nat} (hi : i < t) : hN (givenN p n' h' M rs t k) i = k + 1 ∧ vN (givenN p n' h' M rs t k) i = vN (dealN p n' h' (vN M i) (rs.getD i [])) k := by
  simp [givenN, hN, vN, List.getD_eq_getElem?_getD, hi]
theorem givenN_succ (p n' h' : Nat) (M : List ShN) (rs : List (List Nat)) (t k : Nat) : givenN p n' h' M rs (t + 1) k = givenN p n' h' M rs t k ++ [(k + 1, vN (dealN p n' h' (vN M t) (rs.getD t [])) k)] := by
  simp [givenN, List.range_succ]
/-- The random numbers of each. -/
structure Rands (p n' m t : Nat) (rs : List (List Nat)) : Prop where
  len : ∀ i, i < t → (rs.getD i []).length = m * (n' - 1)
  lt : ∀ i, i < t → ∀ x ∈ rs.getD i [], x < p
/-- The shares of the new plan, by the first t old ones. -/
def movedN (p n' h' : Nat) (M : List ShN) (rs : List (List Nat)) (t : Nat) : List ShN := (List.range h').map fun k => (k + 1, joinV p (wsN p (hsN (M.take t)) 0) (fun i => vN (givenN p n' h' M rs t k) i) t)
theorem movedN_len (p n' h' : Nat) (M : List ShN) (rs : List (List Nat)) (t : Nat) : (movedN p n' h' M rs t).length = h' := by simp [movedN]
theorem movedN_at {p n' h' : Nat} {M : List ShN} {rs : List (List Nat)} {t k : Nat} (hk : k < h') : hN (movedN p n' h' M rs t) k = k + 1 ∧ vN (movedN p n' h' M rs t) k = joinV p (wsN p (hsN (M.take t)) 0) (fun i => vN (givenN p n' h' M rs t k) i) t := by
  simp [movedN, hN, vN, List.getD_eq_getElem?_getD, hk]
theorem movedN_take {p n' h' : Nat} {M : List ShN} {rs : List (List Nat)} {t k : Nat} (hk : k < h') : (movedN p n' h' M rs t).take (k + 1) = (movedN p n' h' M rs t).take k ++ [(k + 1, joinV p (wsN p (hsN (M.take t)) 0) (fun i => vN (givenN p n' h' M rs t k) i) t)] := by
  rw [List.take_succ_eq_append_getElem (by rw [movedN_len]; exact hk), getD_at (by rw [movedN_len]; exact hk), (movedN_at hk).1, (movedN_at hk).2]
theorem given_parts {p n h n' h' t k : Nat} {a : List Nat} {M : List ShN} {rs : List (List Nat)} (P : PlanN p n h) (H : Made p n h a M) (ht : t ≤ M.length) (hk : k < h') : Parts p h' (k + 1) a.length (givenN p n' h' M rs t k) := by
  refine ⟨fun i hi => ?_, by omega, by omega, fun i hi => ?_, fun i hi => ?_⟩
  · rw [givenN_len] at hi; exact (givenN_at hi).1
  · rw [givenN_len] at hi
    rw [(givenN_at hi).2, (deal_row P.p1 hk).2.1, H.vlen (by omega)]
  · rw [givenN_len] at hi
    rw [(givenN_at hi).2]; exact (deal_row P.p1 hk).2.2
theorem moved_full {p n h n' h' t : Nat} {a : List Nat} {M : List ShN} {rs : List (List Nat)} (P : PlanN p n h) (P' : PlanN p n' h') (H : Made p n h a M) (hm : a.length ≤ 2048) (hn : n ≤ t) (ht : t ≤ M.length) (hr : Rands p n' a.length t rs) :
    Full p n' h' a (movedN p n' h' M rs t) := by
  obtain ⟨F, F1, F2, F3⟩ := H.ex
  have hp := P.p1
  have hn1 := P.n1
  have g := F1.good hp hm
  have hN0 : ∀ k, k < h' → vN (movedN p n' h' M rs t) k = (List.range a.length).map fun e => evN p (joinV p (wsN p (hsN (M.take t)) 0) (fun i => polN (vN M i) (rs.getD i []) (n' - 1) e) t) (k + 1) := fun k hk => by
    rw [(movedN_at hk).2, ← joinV_ev hp (by omega)]
    refine joinV_congr t fun i hi => ?_
    rw [(givenN_at hi).2]
    unfold dealN
    rw [(dealtT_at hk).2, H.vlen (by omega)]
  refine ⟨⟨fun e => joinV p (wsN p (hsN (M.take t)) 0) (fun i => polN (vN M i) (rs.getD i []) (n' - 1) e) t, ⟨fun s hs => ?_, nodup_hsN fun k hk j hj => ?_⟩, fun e he => ?_, ?_⟩, fun k hk => ?_, movedN_len _ _ _ _ _ _⟩
  · obtain ⟨k, hk, rfl⟩ := shl_mem hs
    rw [movedN_len] at hk
    rw [(movedN_at hk).1, hN0 k hk]
    exact ⟨by omega, by omega, rfl⟩
  · rw [movedN_len] at hk
    rw [(movedN_at hk).1, (movedN_at (show j < h' by omega)).1]; omega
  · exact joinV_le t fun i hi => polN_le P'.n1
  · refine extN (by simp) fun e he => ?_
    have he' : e < a.length := by simpa using he
    rw [nthN_eq he]
    simp only [List.getElem_map, List.getElem_range]
    have hz := joinV_zero (p := p) (ws := wsN p (hsN (M.take t)) 0) (P := fun i => polN (vN M i) (rs.getD i []) (n' - 1) e) (ys := colN (M.take t) e) hp t (fun i hi => by
      have hx := (g.rng i (by omega)).2.2
      rw [evN_at0 (polN_lt hp hx (hr.lt i hi) _ _) hp, polN_zero, colN_nth (by rw [List.length_take]; omega), vN_take hi])
    rw [hz, F1.weigh P.pr P.hp ht (fun i hi => Nat.le_trans (F2 i hi) hn) he' 0]
    have : nthN a e = nthN ((List.range a.length).map fun i => evN p (F i) 0) e := by rw [F3]
    rw [this, nthN_eq (by simpa using he')]; simp
  · rw [movedN_len] at hk
    exact (movedN_at hk).1
end Go.Proofs.YtjckpammcgeloaaDoor
namespace Go.Proofs.YtjckpammcgeloaaDoor
open Go.RowKit

theorem RowsV.monoQ {Q Q' : Nat → Prop} {w : World} {base : Nat} {v : Value} {S : List Shr} (h : RowsV Q w base v S) (hq : ∀ b, b < w.heap.size → Q b → v.ownBlock ≠ some b → Q' b) : RowsV Q' w base v S := by
  obtain ⟨H, e1, e2, e3⟩ := h.ex
  refine ⟨H, e1, e2, fun k hk => ?_⟩
  obtain ⟨f1, B, c, f2, f3⟩ := e3 k hk
  exact ⟨f1, B, c, f2, f3.mono (fun b hlt hb => ⟨hq b hlt hb.1 hb.2, hb.2⟩)⟩
theorem RowsV.lt {Q : Nat → Prop} {w : World} {base : Nat} {v : Value} {S : List Shr} (h : RowsV Q w base v S) : ∀ b, v.ownBlock = some b → base ≤ b ∧ b < w.heap.size := fun b hb => by
  obtain ⟨H, e1, -, -⟩ := h.ex
  exact World.ownsRow.lt e1 b hb
theorem RowsV.more2 {Q : Nat → Prop} {w w' : World} {base : Nat} {v v' : Value} {H : List HV} {S : List Shr} (e2 : H.length = S.length)
    (e3 : ∀ k, k < S.length → (hvAt H k).1 = hS S k ∧ ∃ B c, (hvAt H k).2 = .slice B (vS S k).length c ∧ IntsP (fun b => Q b ∧ v.ownBlock ≠ some b) w B c (vS S k))
    (x : Int) (L : List Int) {B : Option Addr} {c : Nat} (hI : IntsP (fun b => Q b ∧ v.ownBlock ≠ some b) w B c L) (hown : HvOwn w' base v' (H ++ [(x, .slice B L.length c)])) (hg : w.grownBy w' v.ownBlock)
    (hv : ∀ b, v'.ownBlock = some b → v.ownBlock = some b ∨ w.heap.size ≤ b) : RowsV Q w' base v' (S ++ [(x, L)]) := by
  have key : ∀ {B : Option Addr} {c : Nat} {L : List Int}, IntsP (fun b => Q b ∧ v.ownBlock ≠ some b) w B c L → IntsP (fun b => Q b ∧ v'.ownBlock ≠ some b) w' B c L := fun hI =>
    ((hI.mono (Q := fun b => (Q b ∧ v'.ownBlock ≠ some b) ∧ v.ownBlock ≠ some b) (fun b hlt hb => ⟨⟨hb.1, fun e => by
      rcases hv b e with h | h
      · exact hb.2 h
      · omega⟩, hb.2⟩)).keep (w' := w') ⟨hg.size, fun b hb hlt => hg.block b hlt (fun e => hb.2 e.symm)⟩).mono (fun b _ hb => hb.1)
  refine ⟨_, hown, by simp [e2], fun k hk => ?_⟩
  rcases Nat.lt_or_ge k S.length with h | h
  · obtain ⟨f1, B', c', f2, f3⟩ := e3 k h
    rw [hvAt_append (by omega), (hS_append h).1, (hS_append h).2]
    exact ⟨f1, B', c', f2, key f3⟩
  · obtain rfl : k = S.length := by simp at hk; omega
    rw [hS_last.1, hS_last.2]
    rw [show S.length = H.length from e2.symm, hvAt_last]
    exact ⟨rfl, B, c, rfl, key hI⟩
theorem grown_cellSet (w : World) (g a : Nat) (u : Value) : w.grownBy (w.setCell ⟨g, a, none⟩ u) (some g) :=
  ⟨rfl, rfl, rfl, by simp [World.setCell], fun k _ hne => Below.heap_setCell w _ u k (fun e => hne (by rw [e]))⟩
/-- One list for each new holder: rows of the own, none in another. -/
structure GivenR (w : World) (base g : Nat) (Vs : List Value) (Ns : List (List ShN)) : Prop where
  blk : w.heap[g]? = some (.cells Vs.toArray 33 (0, 0))
  low : base ≤ g
  len : Vs.length = Ns.length
  row : ∀ (k : Nat) (v : Value) (N : List ShN), Vs[k]? = some v → Ns[k]? = some N → RowsV (fun b => base ≤ b ∧ b ≠ g ∧ ∀ u ∈ Vs, u.ownBlock ≠ some b) w base v (shL N)
  no : ∀ u ∈ Vs, u.ownBlock ≠ some g
  ne : ∀ (i j : Nat) (u v : Value), Vs[i]? = some u → Vs[j]? = some v → i ≠ j → ∀ b, u.ownBlock = some b → v.ownBlock ≠ some b
theorem GivenR.lt {w : World} {base g : Nat} {Vs : List Value} {Ns : List (List ShN)} (h : GivenR w base g Vs Ns) : g < w.heap.size := blk_lt h.blk
theorem GivenR.below {w w' : World} {base g : Nat} {Vs : List Value} {Ns : List (List ShN)} (h : GivenR w base g Vs Ns) (hb : Below w.heap.size w w') : GivenR w' base g Vs Ns :=
  ⟨(hb.block g h.lt).trans h.blk, h.low, h.len, fun k v N h1 h2 => (h.row k v N h1 h2).below hb, h.no, h.ne⟩
theorem GivenR.new {w : World} {base g n : Nat} (hg : w.heap[g]? = some (.cells (List.replicate n (Value.slice none 0 0)).toArray 33 (0, 0))) (hb : base ≤ g) : GivenR w base g (List.replicate n (.slice none 0 0)) (List.replicate n []) := by
  refine ⟨hg, hb, by simp, fun k v N h1 h2 => ?_, fun u hu => ?_, fun i j u v h1 h2 _ b hb => ?_⟩
  · have e1 := List.eq_of_mem_replicate (List.mem_of_getElem? h1)
    have e2 := List.eq_of_mem_replicate (List.mem_of_getElem? h2)
    subst e1 e2
    exact RowsV.nil _ _ _
  · rw [List.eq_of_mem_replicate hu]; simp [Value.ownBlock]
  · rw [List.eq_of_mem_replicate (List.mem_of_getElem? h1)] at hb; cases hb
theorem GivenR.cell {w : World} {base g k : Nat} {Vs : List Value} {Ns : List (List ShN)} {v : Value} (h : GivenR w base g Vs Ns) (hk : Vs[k]? = some v) : w.cell? ⟨g, k, none⟩ = some v ∧ w.frozen? ⟨g, k, none⟩ = false := by
  refine ⟨?_, frozen_of_row w g k _ _ h.blk⟩
  rw [cell_of_row w g k _ _ (0, 0) h.blk]
  simpa using hk
theorem GivenR.at_ {w : World} {base g k : Nat} {Vs : List Value} {Ns : List (List ShN)} (h : GivenR w base g Vs Ns) (hk : k < Ns.length) : ∃ A c, Vs[k]? = some (.slice A Ns[k].length c) ∧ ShP (fun b => base ≤ b) w A c (shL Ns[k]) := by
  have hk' : k < Vs.length := by rw [h.len]; exact hk
  have hR := h.row k Vs[k] Ns[k] (List.getElem?_eq_getElem hk') (List.getElem?_eq_getElem hk)
  obtain ⟨A, c, e, hS⟩ := hR.read
  rw [shL_len] at e
  exact ⟨A, c, by rw [List.getElem?_eq_getElem hk', e], hS.mono (fun b _ hb => hb.elim id (fun hb => hb.1))⟩
theorem GivenR.add {W w' : World} {base g k : Nat} {Vs : List Value} {Ns : List (List ShN)} {v v' : Value} {N : List ShN} {H : List HV} {x : Nat} {L : List Nat} {B : Option Addr} {c : Nat} (h : GivenR W base g Vs Ns) (hk : Vs[k]? = some v)
    (e2 : H.length = (shL N).length) (e3 : ∀ j, j < (shL N).length → (hvAt H j).1 = hS (shL N) j ∧ ∃ B c, (hvAt H j).2 = .slice B (vS (shL N) j).length c ∧ IntsP (fun b => (base ≤ b ∧ b ≠ g ∧ ∀ u ∈ Vs, u.ownBlock ≠ some b) ∧ v.ownBlock ≠ some b) W B c (vS (shL N) j))
    (hI : IntsP (fun b => base ≤ b ∧ b ≠ g ∧ ∀ u ∈ Vs, u.ownBlock ≠ some b) W B c (ofN L)) (hown : HvOwn w' base v' (H ++ [((x : Int), .slice B L.length c)])) (hg : W.grownBy w' v.ownBlock) (hv : ∀ b, v'.ownBlock = some b → v.ownBlock = some b ∨ W.heap.size ≤ b) :
    GivenR (w'.setCell ⟨g, k, none⟩ v') base g (Vs.set k v') (Ns.set k (N ++ [(x, L)])) := by
  have hkl : k < Vs.length := by
    rcases Nat.lt_or_ge k Vs.length with h1 | h1
    · exact h1
    · rw [List.getElem?_eq_none h1] at hk; cases hk
  have hmem : v ∈ Vs := List.mem_of_getElem? hk
  have hgW := h.lt
  have hvg : v.ownBlock ≠ some g := h.no v hmem
  have hv'g : v'.ownBlock ≠ some g := fun e => by
    rcases hv g e with e | e
    · exact hvg e
    · omega
  have hblk : w'.heap[g]? = W.heap[g]? := hg.block g hgW (fun e => hvg e.symm)
  -- what is in none of the new ones
  have hnew : ∀ b, b < W.heap.size → (∀ u ∈ Vs, u.ownBlock ≠ some b) → ∀ u ∈ Vs.set k v', u.ownBlock ≠ some b := fun b hlt hb u hu => by
    rcases List.mem_or_eq_of_mem_set hu with h1 | h1
    · exact hb u h1
    · subst h1
      intro e
      rcases hv b e with e | e
      · exact hb v hmem e
      · omega
  refine ⟨?_, h.low, by simp [h.len], fun j u M h1 h2 => ?_, fun u hu => ?_, fun i j u t h1 h2 hij b hb => ?_⟩
  · have : (w'.setCell ⟨g, k, none⟩ v').heap[g]? = some (.cells (Vs.toArray.setIfInBounds k v') 33 (0, 0)) := by
      have e := hblk.trans h.blk
      simp [World.setCell, Array.getElem?_modify, e]
    rw [this]; simp
  · by_cases hjk : k = j
    · subst hjk
      have hkN : k < Ns.length := by rw [← h.len]; exact hkl
      rw [List.getElem?_set_self hkl] at h1
      rw [List.getElem?_set_self hkN] at h2
      injection h1 with h1; injection h2 with h2
      subst h1 h2
      have hm := RowsV.more2 (Q := fun b => base ≤ b ∧ b ≠ g ∧ ∀ u ∈ Vs, u.ownBlock ≠ some b) e2 e3 (x : Int) (ofN L) (hI.mono (fun b _ hb => ⟨hb, hb.2.2 v hmem⟩)) (by rw [len_ofN]; exact hown) hg hv
      rw [show shL N ++ [((x : Int), ofN L)] = shL (N ++ [(x, L)]) from by simp [shL, shI]] at hm
      have hm2 := hm.monoQ (Q' := fun b => base ≤ b ∧ b ≠ g ∧ ∀ u ∈ Vs.set k v', u.ownBlock ≠ some b) (fun b _ hb hbv => ⟨hb.1, hb.2.1, fun u hu => by
        rcases List.mem_or_eq_of_mem_set hu with h1 | h1
        · exact hb.2.2 u h1
        · subst h1; exact hbv⟩)
      exact hm2.kept (grown_cellSet w' g k v') (by
        rcases hvb : v'.ownBlock with _ | b
        · exact .inl rfl
        · exact .inr (by rw [← hvb]; exact hv'g)) (fun b hb e => hb.2.1 (Option.some.inj e).symm)
    · rw [List.getElem?_set_ne hjk] at h1 h2
      have hR := h.row j u M h1 h2
      have hR1 := hR.monoQ (Q' := fun b => (base ≤ b ∧ b ≠ g ∧ ∀ u ∈ Vs.set k v', u.ownBlock ≠ some b) ∧ v.ownBlock ≠ some b) (fun b hlt hb _ => ⟨⟨hb.1, hb.2.1, hnew b hlt hb.2.2⟩, hb.2.2 v hmem⟩)
      have hR2 := hR1.kept hg (by
        rcases hub : u.ownBlock with _ | b
        · exact .inl rfl
        · exact .inr (fun e => h.ne j k u v h1 hk (fun e => hjk e.symm) b hub e.symm)) (fun b hb e => hb.2 e)
      have hR3 := hR2.monoQ (Q' := fun b => base ≤ b ∧ b ≠ g ∧ ∀ u ∈ Vs.set k v', u.ownBlock ≠ some b) (fun b _ hb _ => hb.1)
      exact hR3.kept (grown_cellSet w' g k v') (by
        rcases hub : u.ownBlock with _ | b
        · exact .inl rfl
        · exact .inr (by rw [← hub]; exact h.no u (List.mem_of_getElem? h1))) (fun b hb e => hb.2.1 (Option.some.inj e).symm)
  · rcases List.mem_or_eq_of_mem_set hu with h1 | h1
    · exact h.no u h1
    · subst h1; exact hv'g
  · -- two different ones
    have hlt : ∀ (i : Nat) (u : Value), Vs[i]? = some u → ∀ b, u.ownBlock = some b → b < W.heap.size := fun i u hu b hb => by
      have hi : i < Vs.length := by
        rcases Nat.lt_or_ge i Vs.length with h1 | h1
        · exact h1
        · rw [List.getElem?_eq_none h1] at hu; cases hu
      exact ((h.row i u _ hu (List.getElem?_eq_getElem (show i < Ns.length by rw [← h.len]; exact hi))).lt b hb).2
    by_cases hi : k = i
    · subst hi
      rw [List.getElem?_set_self hkl] at h1
      injection h1 with h1
      subst h1
      rw [List.getElem?_set_ne hij] at h2
      rcases hv b hb with e | e
      · exact h.ne k j v t hk h2 hij b e
      · intro e3
        have := hlt j t h2 b e3; omega
    · rw [List.getElem?_set_ne hi] at h1
      by_cases hj : k = j
      · subst hj
        rw [List.getElem?_set_self hkl] at h2
        injection h2 with h2
        subst h2
        intro e3
        rcases hv b e3 with e | e
        · exact h.ne i k u v h1 hk hij b hb e
        · have := hlt i u h1 b hb; omega
      · rw [List.getElem?_set_ne hj] at h2
        exact h.ne i j u t h1 h2 hij b hb
end Go.Proofs.YtjckpammcgeloaaDoor
namespace Go.Proofs.YtjckpammcgeloaaDoor
open Go.RowKit

/-- append of one share, from a literal that lies anywhere, in a region that draws. -/
theorem J_app_sh {ops : Array Oper} {o : Oper} {a : Act} {K : Act → World → Prop} {Q : Exit → Act → World → Prop} {X : Prop} (W : World) (hgd : o.guard = none) (s x : Operand)
    (ho : o.op = .call { callee := .builtin .append, args := #[s, x], argTypes := #[33, 33] })
    (base : Nat) (v : Value) (H : List HV) (y : Int) (B : Option Addr) (l c : Nat) (g0 : Nat) (hs : a.eval s = v) (hx : a.eval x = .slice (some ⟨g0, 0, none⟩) 1 1)
    (hlit : W.heap[g0]? = some (.cells #[.int .i64 y, .slice B l c] 35 (0, 0))) (hown : HvOwn W base v H) (hl : H.length ≤ 100000) (hbase : base ≤ W.heap.size)
    (h : ∀ g cap w', HvOwn w' base (.slice (some ⟨g, 0, none⟩) (H.length + 1) cap) (H ++ [(y, .slice B l c)]) → W.grownBy w' v.ownBlock → (v.ownBlock = some g ∨ g = W.heap.size) → K (a.put o.dst (.slice (some ⟨g, 0, none⟩) (H.length + 1) cap)) w') :
    if Region.wanted o (yielded ops a.tmps) = true then Oper.wp Tryd.prog o a W K Q else X := by
  obtain ⟨i0, hi, hz0, hz1, hz2⟩ := info_parts info_share
  refine step_append_lies _ hgd s x 33 ho base 35 i0 _ 2 32 Tryd.underlying33 hi hz0 hz1 hz2 rfl (by omega) v H.length (flatH H) hs hown ⟨g0, 0, none⟩ 1 1 (flatH [(y, .slice B l c)]) hx rfl (fun j u hu => ?_) (fun u hu => ?_) (by omega) (by unfold maxLen; omega) (by omega) hbase _ rfl ?_
  · have hj : j = 0 ∨ j = 1 ∨ 2 ≤ j := by omega
    have e : (⟨g0, 0, none⟩ : Addr).add j = ⟨g0, j, none⟩ := by unfold Addr.add; split <;> simp_all
    rw [e, cell_of_row W g0 j _ _ (0, 0) hlit]
    rcases hj with rfl | rfl | hj
    · simpa [flatH] using hu
    · simpa [flatH] using hu
    · rw [List.getElem?_eq_none (by simp [flatH]; omega)] at hu; cases hu
  · simp only [flatH, List.mem_cons, List.not_mem_nil, or_false] at hu
    rcases hu with rfl | rfl <;> rfl
  · intro g cap w' ho' hg hat _
    refine h g cap w' ?_ hg hat
    unfold HvOwn
    rw [List.length_append, flatH_append]
    exact ho'
/-- The numbers of one share. -/
def ElsOK (p : Nat) (L : List Int) : Prop := ∀ x ∈ L, 0 ≤ x ∧ x < (p : Int)
/-- A gift that the law makes. -/
structure GiftM (p : Nat) (h : Int) (n : Nat) (G : GiftD) : Prop where
  hd : G.h = h
  bl : G.bx.length = n
  wl : G.wh.length = n
  bh : ∀ k, k < n → hS G.bx k = h
  wh : ∀ k, k < n → hS G.wh k = h
  bv : ∀ k, k < n → (vS G.bx k).length = k + 1 ∧ ElsOK p (vS G.bx k)
  wv : ∀ k, k < n → (vS G.wh k).length = 1 ∧ ElsOK p (vS G.wh k)
  kh : G.kh = h
  kv : G.kv.length = 1 ∧ ElsOK p G.kv
/-- So far. -/
structure RowM (p : Nat) (h : Int) (len : Nat → Nat) (S : List Shr) : Prop where
  hold : ∀ k, k < S.length → hS S k = h
  val : ∀ k, k < S.length → (vS S k).length = len k ∧ ElsOK p (vS S k)
theorem RowM.nil (p : Nat) (h : Int) (len : Nat → Nat) : RowM p h len [] := ⟨fun k hk => absurd hk (by simp), fun k hk => absurd hk (by simp)⟩
theorem RowM.more {p : Nat} {h : Int} {len : Nat → Nat} {S : List Shr} {L : List Int} (H : RowM p h len S) (hl : L.length = len S.length) (hL : ElsOK p L) : RowM p h len (S ++ [(h, L)]) := by
  refine ⟨fun k hk => ?_, fun k hk => ?_⟩
  · rcases Nat.lt_or_ge k S.length with h1 | h1
    · rw [(hS_append h1).1]; exact H.hold k h1
    · obtain rfl : k = S.length := by simp at hk; omega
      exact hS_last.1
  · rcases Nat.lt_or_ge k S.length with h1 | h1
    · rw [(hS_append h1).2]; exact H.val k h1
    · obtain rfl : k = S.length := by simp at hk; omega
      rw [hS_last.2]; exact ⟨hl, hL⟩
end Go.Proofs.YtjckpammcgeloaaDoor
namespace Go.Proofs.YtjckpammcgeloaaDoor
open Go.RowKit

theorem grown_setc (w : World) (q : Addr) (v : Value) : w.grownBy (w.setCell q v) (some q.block) := ⟨rfl, rfl, rfl, by simp [World.setCell], fun k _ hk => Below.heap_setCell w q v k (fun e => hk (by rw [e]))⟩
theorem grown_save {X : Nat → Prop} {w w' : World} {r : Option Nat} (hg : w.grownBy w' r) (hr : ∀ x, r = some x → X x) : Sav X w w' := ⟨hg.os, hg.tape, hg.output, hg.size, fun k hk hX => hg.block k hk (fun e => hX (hr k e.symm))⟩
theorem IntsP.grown {P : Nat → Prop} {w w' : World} {A : Option Addr} {c : Nat} {L : List Int} {r : Option Nat} (h : IntsP P w A c L) (hg : w.grownBy w' r) (hr : ∀ b, P b → r ≠ some b) : IntsP P w' A c L := h.keep ⟨hg.size, fun b hb hlt => hg.block b hlt (fun e => hr b hb e.symm)⟩
/-- A variable of a gift that holds a list of shares. -/
structure GCell (gx fld : Nat) (GC : World → Value → Prop) : Prop where
  keep : ∀ w w' v, GC w v → w'.heap[gx]? = w.heap[gx]? → GC w' v
  load : ∀ w v, GC w v → (Instr.loadAt 33 (.pointer (some ⟨gx, fld, none⟩))).run Tryd.prog w = .ok v w
  store : ∀ w v A n c, GC w v → (Instr.storeAt 33 (.pointer (some ⟨gx, fld, none⟩)) (slV A n c)).run Tryd.prog w = .ok () (w.setCell ⟨gx, fld, none⟩ (slV A n c)) ∧ GC (w.setCell ⟨gx, fld, none⟩ (slV A n c)) (slV A n c)
  lt : ∀ w v, GC w v → gx < w.heap.size
theorem gcell_b (gx : Nat) (h : Int) (v2 : Value) (kv : Value) : GCell gx 1 (fun w v => GiftCell w gx h v v2 h kv) where
  keep := fun _ _ _ H e => H.keep e
  load := fun _ _ H => ld_gb H
  store := fun w v A n c H => ⟨by
    have h0 := H.c1
    have f0 := H.frozen 1
    go_simp, H.set1 _⟩
  lt := fun _ _ H => H.lt
theorem gcell_w (gx : Nat) (h : Int) (v1 : Value) (kv : Value) : GCell gx 2 (fun w v => GiftCell w gx h v1 v h kv) where
  keep := fun _ _ _ H e => H.keep e
  load := fun _ _ H => ld_gw H
  store := fun w v A n c H => ⟨by
    have h0 := H.c2
    have f0 := H.frozen 2
    go_simp, H.set2 _⟩
  lt := fun _ _ H => H.lt
/-- What stands around a region of the loop. -/
structure GBase (W0 : World) (gx D px base : Nat) (R : List Int) (v1 : Value) (GC : World → Value → Prop) (N : Nat → Prop) (S : List Shr) : Prop where
  dp : D < px
  pg : px < gx
  gb : gx < base
  bs : base ≤ W0.heap.size
  dice : DiceAt W0 D R
  row : RowsV N W0 base v1 S
  nb : ∀ b, N b → D < b ∧ b ≠ gx ∧ b < W0.heap.size ∧ v1.ownBlock ≠ some b
  cell : GC W0 v1

/-- The region, under way. -/
structure GiA (W0 : World) (gx fld D px base : Nat) (R : List Int) (p : Nat) (k : Nat) (h : Int) (v1 : Value) (GC : World → Value → Prop) (N : Nat → Prop) (S : List Shr) (V : Nat → Value) (Ld : Nat → Bool) (w : World) : Prop where
  sv : Sav (fun b => b = D ∨ b = gx ∨ v1.ownBlock = some b) W0 w
  d0 : Ld 6 = false → DiceAt w D R
  d1 : Ld 6 = true → DiceAt w D R.tail
  x0 : Ld 0 = true → V 0 = .pointer (some ⟨gx, fld, none⟩)
  x1 : Ld 1 = true → V 1 = v1
  xh : Ld 2 = true → V 2 = .int .i64 h
  xp : Ld 3 = true → V 3 = .pointer (some ⟨px, 0, none⟩)
  xq : Ld 4 = true → V 4 = .int .i64 (p : Int)
  xd : Ld 5 = true → V 5 = .pointer (some ⟨D, 0, none⟩)
  xn : Ld 6 = true → ∃ x, V 6 = .int .i64 x
  xk : Ld 7 = true → V 7 = .int .i64 (k : Int)
  xa : Ld 8 = true → V 8 = .int .i64 ((k + 1 : Nat) : Int)
  xu : Ld 9 = true → Ld 6 = true ∧ ∃ A c L, V 9 = slV A L.length c ∧ L.length = k + 1 ∧ ElsOK p L ∧ IntsP (fun b => W0.heap.size ≤ b) w A c L
  xb : Ld 10 = true → Ld 6 = true ∧ ∃ A c L, V 10 = shV h (slV A L.length c) ∧ L.length = k + 1 ∧ ElsOK p L ∧ IntsP (fun b => W0.heap.size ≤ b) w A c L
  xl : Ld 11 = true → Ld 6 = true ∧ ∃ g A c L, V 11 = .slice (some ⟨g, 0, none⟩) 1 1 ∧ W0.heap.size ≤ g ∧ w.heap[g]? = some (.cells #[.int .i64 h, slV A L.length c] 35 (0, 0)) ∧ L.length = k + 1 ∧ ElsOK p L ∧ IntsP (fun b => W0.heap.size ≤ b) w A c L
  b0 : Ld 12 = false → RowsV N w base v1 S
  b1 : Ld 12 = true → (Ld 6 = true ∧ Ld 1 = true) ∧ ∃ g c L, V 12 = slV (some ⟨g, 0, none⟩) (S.length + 1) c ∧ (v1.ownBlock = some g ∨ W0.heap.size ≤ g) ∧ L.length = k + 1 ∧ ElsOK p L ∧ RowsV (fun b => N b ∨ W0.heap.size ≤ b) w base (V 12) (S ++ [(h, L)])
  x2 : Ld 13 = true → V 13 = .pointer (some ⟨gx, fld, none⟩)
  c0 : Ld 14 = false → GC w v1
  c1 : Ld 14 = true → Ld 12 = true ∧ GC w (V 12)
section
variable {W0 : World} {gx fld D px base : Nat} {R : List Int} {p : Nat} {k : Nat} {h : Int} {v1 : Value} {GC : World → Value → Prop} {N : Nat → Prop} {S : List Shr} {V : Nat → Value} {Ld : Nat → Bool} {w w' : World}
theorem GiA.start (B : GBase W0 gx D px base R v1 GC N S) (V : Nat → Value) (HG : GCell gx fld GC) : GiA W0 gx fld D px base R p k h v1 GC N S V (fun _ => false) W0.drew where
  sv := (Sav.refl _ _).trans (Sav.of_below (Below.refl _ _).drew)
  d0 _ := B.dice.below (Below.refl _ _).drew
  d1 e := by cases e
  x0 e := by cases e
  x1 e := by cases e
  xh e := by cases e
  xp e := by cases e
  xq e := by cases e
  xd e := by cases e
  xn e := by cases e
  xk e := by cases e
  xa e := by cases e
  xu e := by cases e
  xb e := by cases e
  xl e := by cases e
  b0 _ := B.row.below (Below.refl _ _).drew
  b1 e := by cases e
  x2 e := by cases e
  c0 _ := HG.keep _ _ _ B.cell rfl
  c1 e := by cases e
theorem GiA.grow (H : GiA W0 gx fld D px base R p k h v1 GC N S V Ld w) (HG : GCell gx fld GC) {r : Option Nat} (hg : w.grownBy w' r) (hr : ∀ x, r = some x → x < W0.heap.size ∧ (x = D ∨ x = gx ∨ v1.ownBlock = some x))
    (hd0 : Ld 6 = false → DiceAt w' D R) (hd1 : Ld 6 = true → DiceAt w' D R.tail)
    (hb0 : Ld 12 = false → RowsV N w' base v1 S) (hb1 : Ld 12 = true → (Ld 6 = true ∧ Ld 1 = true) ∧ ∃ g c L, V 12 = slV (some ⟨g, 0, none⟩) (S.length + 1) c ∧ (v1.ownBlock = some g ∨ W0.heap.size ≤ g) ∧ L.length = k + 1 ∧ ElsOK p L ∧ RowsV (fun b => N b ∨ W0.heap.size ≤ b) w' base (V 12) (S ++ [(h, L)]))
    (hc0 : Ld 14 = false → GC w' v1) (hc1 : Ld 14 = true → Ld 12 = true ∧ GC w' (V 12)) : GiA W0 gx fld D px base R p k h v1 GC N S V Ld w' := { H with
  sv := H.sv.trans (grown_save hg (fun x e => (hr x e).2))
  d0 := hd0
  d1 := hd1
  xu := fun e => by obtain ⟨e0, A, c, L, e1, e2, e3, e4⟩ := H.xu e; exact ⟨e0, A, c, L, e1, e2, e3, e4.grown hg (fun b hb e => by have := (hr b e).1; omega)⟩
  xb := fun e => by obtain ⟨e0, A, c, L, e1, e2, e3, e4⟩ := H.xb e; exact ⟨e0, A, c, L, e1, e2, e3, e4.grown hg (fun b hb e => by have := (hr b e).1; omega)⟩
  xl := fun e => by obtain ⟨e0, g, A, c, L, e1, e2, e5, e3, e4, e6⟩ := H.xl e; exact ⟨e0, g, A, c, L, e1, e2, (hg.block g (blk_lt e5) (fun e => by have := (hr g e.symm).1; omega)).trans e5, e3, e4, e6.grown hg (fun b hb e => by have := (hr b e).1; omega)⟩
  b0 := hb0
  b1 := hb1
  c0 := hc0
  c1 := hc1 }
theorem GiA.move (H : GiA W0 gx fld D px base R p k h v1 GC N S V Ld w) (HG : GCell gx fld GC) (hb : Below w.heap.size w w') : GiA W0 gx fld D px base R p k h v1 GC N S V Ld w' :=
  H.grow HG (r := none) ⟨hb.os, hb.tape, hb.output, hb.size, fun k hk _ => hb.block k hk⟩ (fun x e => by cases e) (fun e => (H.d0 e).below hb) (fun e => (H.d1 e).below hb) (fun e => (H.b0 e).below hb)
    (fun e => by obtain ⟨e0, g, c, L, e1, e2, e3, e4, e5⟩ := H.b1 e; exact ⟨e0, g, c, L, e1, e2, e3, e4, e5.below hb⟩) (fun e => HG.keep _ _ _ (H.c0 e) (hb.block _ (HG.lt _ _ (H.c0 e)))) (fun e => ⟨(H.c1 e).1, HG.keep _ _ _ (H.c1 e).2 (hb.block _ (HG.lt _ _ (H.c1 e).2))⟩)
theorem GiA.oNext (H : GiA W0 gx fld D px base R p k h v1 GC N S V Ld w) (HG : GCell gx fld GC) (B : GBase W0 gx D px base R v1 GC N S) (hL : Ld 6 = false) {x : Int} (hd : DiceAt w' D R.tail) (hg : w.grownBy w' (some D)) : GiA W0 gx fld D px base R p k h v1 GC N S (updV V 6 (.int .i64 x)) (upd Ld 6) w' := by
  have hA : Ld 12 = false := by
    cases q : Ld 12 with
    | false => rfl
    | true => exact nfC hL (H.b1 q).1.1
  have hS : Ld 14 = false := by
    cases q : Ld 14 with
    | false => rfl
    | true => exact nfC hA (H.c1 q).1
  have b1 := B.dp
  have b2 := B.pg
  have b3 := B.gb
  have b4 := B.bs
  exact { H with
    sv := H.sv.trans (grown_save hg (fun y e => by injection e with e; exact .inl e.symm))
    d0 := fun e => by cases e
    d1 := fun _ => hd
    xn := fun _ => ⟨x, rfl⟩
    xu := fun e => nfC hL (H.xu e).1
    xb := fun e => nfC hL (H.xb e).1
    xl := fun e => nfC hL (H.xl e).1
    b0 := fun _ => (H.b0 hA).kept hg (.inr (fun e => by have := ((H.b0 hA).lt D e).1; omega)) (fun b hb e => by injection e with e; have := (B.nb b hb).1; omega)
    b1 := fun e => nfC hL (H.b1 e).1.1
    c0 := fun _ => HG.keep _ _ _ (H.c0 hS) (hg.block gx (HG.lt _ _ (H.c0 hS)) (fun e => by injection e with e; omega))
    c1 := fun e => nfC hS e }
theorem GiA.oApp (H : GiA W0 gx fld D px base R p k h v1 GC N S V Ld w) (HG : GCell gx fld GC) (B : GBase W0 gx D px base R v1 GC N S) (hL : Ld 12 = false) (hN : Ld 6 = true) (hN1 : Ld 1 = true) {g c : Nat} {A : Option Addr} {ac : Nat} {L : List Int} {HH : List HV} (hl : L.length = k + 1) (hE : ElsOK p L) (hI : IntsP (fun b => W0.heap.size ≤ b) w A ac L)
    (e2 : HH.length = S.length) (e3 : ∀ k, k < S.length → (hvAt HH k).1 = hS S k ∧ ∃ B c, (hvAt HH k).2 = .slice B (vS S k).length c ∧ IntsP (fun b => N b ∧ v1.ownBlock ≠ some b) w B c (vS S k))
    (hown : HvOwn w' base (.slice (some ⟨g, 0, none⟩) (S.length + 1) c) (HH ++ [(h, .slice A L.length ac)])) (hg : w.grownBy w' v1.ownBlock) (hat : v1.ownBlock = some g ∨ g = w.heap.size) : GiA W0 gx fld D px base R p k h v1 GC N S (updV V 12 (.slice (some ⟨g, 0, none⟩) (S.length + 1) c)) (upd Ld 12) w' := by
  have hS : Ld 14 = false := by
    cases q : Ld 14 with
    | false => rfl
    | true => exact nfC hL (H.c1 q).1
  have b1 := B.dp
  have b2 := B.pg
  have b3 := B.gb
  have b4 := B.bs
  have hv := B.row.lt
  have hsz := H.sv.size
  have hD := (H.d1 hN).lt
  exact { H with
    sv := H.sv.trans (grown_save hg (fun y e => .inr (.inr e)))
    d0 := fun e => nfC e hN
    d1 := fun _ => (H.d1 hN).keep (fun j hj => hg.block j (by omega) (fun e => by have := (hv j e.symm).1; omega))
    xu := fun e => by obtain ⟨e0, A, c, L, e1, e2, e3, e4⟩ := H.xu e; exact ⟨e0, A, c, L, e1, e2, e3, e4.grown hg (fun b hb e => by have := (hv b e).2; omega)⟩
    xb := fun e => by obtain ⟨e0, A, c, L, e1, e2, e3, e4⟩ := H.xb e; exact ⟨e0, A, c, L, e1, e2, e3, e4.grown hg (fun b hb e => by have := (hv b e).2; omega)⟩
    xl := fun e => by obtain ⟨e0, g, A, c, L, e1, e2, e5, e3, e4, e6⟩ := H.xl e; exact ⟨e0, g, A, c, L, e1, e2, (hg.block g (blk_lt e5) (fun e => by have := (hv g e.symm).2; omega)).trans e5, e3, e4, e6.grown hg (fun b hb e => by have := (hv b e).2; omega)⟩
    b0 := fun e => by cases e
    b1 := fun _ => ⟨⟨hN, hN1⟩, g, c, L, rfl, hat.imp id (fun e => by omega), hl, hE,
      RowsV.more e2 (fun k hk => by obtain ⟨f1, B', c', f2, f3⟩ := e3 k hk; exact ⟨f1, B', c', f2, f3.mono (fun b _ hb => ⟨.inl hb.1, hb.2⟩)⟩) h L (hI.mono (fun b _ hb => ⟨.inr hb, fun e => by have := (hv b e).2; omega⟩)) hown hg (hat.elim (fun e => .inl e.symm) (fun e => .inr (by rw [e]; rfl)))⟩
    c0 := fun _ => HG.keep _ _ _ (H.c0 hS) (hg.block gx (HG.lt _ _ (H.c0 hS)) (fun e => by have := (hv gx e.symm).1; omega))
    c1 := fun e => nfC hS e }
theorem GiA.oStore (H : GiA W0 gx fld D px base R p k h v1 GC N S V Ld w) (HG : GCell gx fld GC) (B : GBase W0 gx D px base R v1 GC N S) (hL : Ld 14 = false) (hA : Ld 12 = true) : ∃ w', (Instr.storeAt 33 (.pointer (some ⟨gx, fld, none⟩)) (V 12)).run Tryd.prog w = .ok () w' ∧ GiA W0 gx fld D px base R p k h v1 GC N S (updV V 14 undef) (upd Ld 14) w' := by
  obtain ⟨⟨hN, hN1⟩, g, c, L, q1, q2, q3, q4, q5⟩ := H.b1 hA
  obtain ⟨s1, s2⟩ := HG.store w v1 (some ⟨g, 0, none⟩) (S.length + 1) c (H.c0 hL)
  have hg := grown_setc w ⟨gx, fld, none⟩ (slV (some ⟨g, 0, none⟩) (S.length + 1) c)
  have b1 := B.dp
  have b2 := B.pg
  have b3 := B.gb
  have b4 := B.bs
  have hv := B.row.lt
  have hsz := H.sv.size
  have hD := (H.d1 hN).lt
  have hgb : gx < g := by
    rcases q2 with e | e
    · have := (hv g e).1; omega
    · omega
  refine ⟨_, by rw [q1]; exact s1, { H with
    sv := H.sv.trans (grown_save hg (fun y e => by injection e with e; exact .inr (.inl e.symm)))
    d0 := fun e => nfC e hN
    d1 := fun _ => (H.d1 hN).keep (fun j hj => hg.block j (by omega) (fun e => by injection e with e; have e' : j = gx := e; omega))
    xu := fun e => by obtain ⟨e0, A, c, L, e1, e2, e3, e4⟩ := H.xu e; exact ⟨e0, A, c, L, e1, e2, e3, e4.grown hg (fun b hb e => by injection e with e; have e' : gx = b := e; omega)⟩
    xb := fun e => by obtain ⟨e0, A, c, L, e1, e2, e3, e4⟩ := H.xb e; exact ⟨e0, A, c, L, e1, e2, e3, e4.grown hg (fun b hb e => by injection e with e; have e' : gx = b := e; omega)⟩
    xl := fun e => by obtain ⟨e0, g, A, c, L, e1, e2, e5, e3, e4, e6⟩ := H.xl e; exact ⟨e0, g, A, c, L, e1, e2, (hg.block g (blk_lt e5) (fun e => by injection e with e; have e' : g = gx := e; omega)).trans e5, e3, e4, e6.grown hg (fun b hb e => by injection e with e; have e' : gx = b := e; omega)⟩
    b0 := fun e => nfC e hA
    b1 := fun _ => ⟨⟨hN, hN1⟩, g, c, L, q1, q2, q3, q4, q5.kept hg (.inr (fun e => by rw [q1] at e; have e' : some g = some gx := e; injection e' with e'; omega)) (fun b hb e => by
      injection e with e
      have e' : gx = b := e
      rcases hb with hb | hb
      · exact (B.nb b hb).2.1 e'.symm
      · omega)⟩
    c0 := fun e => by cases e
    c1 := fun _ => ⟨hA, by rw [show (updV V 14 undef) 12 = V 12 from rfl, q1]; exact s2⟩ }⟩
end
/-- The region, under way. -/
structure GiB (W0 : World) (gx fld D px base : Nat) (R : List Int) (p : Nat) (k : Nat) (h : Int) (v1 : Value) (GC : World → Value → Prop) (N : Nat → Prop) (S : List Shr) (V : Nat → Value) (Ld : Nat → Bool) (w : World) : Prop where
  sv : Sav (fun b => b = D ∨ b = gx ∨ v1.ownBlock = some b) W0 w
  d0 : Ld 6 = false → DiceAt w D R
  d1 : Ld 6 = true → DiceAt w D R.tail
  x0 : Ld 0 = true → V 0 = .pointer (some ⟨gx, fld, none⟩)
  x1 : Ld 1 = true → V 1 = v1
  xh : Ld 2 = true → V 2 = .int .i64 h
  xp : Ld 4 = true → V 4 = .pointer (some ⟨px, 0, none⟩)
  xq : Ld 5 = true → V 5 = .int .i64 (p : Int)
  xd : Ld 3 = true → V 3 = .pointer (some ⟨D, 0, none⟩)
  xn : Ld 6 = true → ∃ x, V 6 = .int .i64 x ∧ 0 ≤ x ∧ x < (p : Int)
  xu : Ld 7 = true → Ld 6 = true ∧ ∃ A c L, V 7 = slV A L.length c ∧ L.length = 1 ∧ ElsOK p L ∧ IntsP (fun b => W0.heap.size ≤ b) w A c L
  xb : Ld 8 = true → Ld 6 = true ∧ ∃ A c L, V 8 = shV h (slV A L.length c) ∧ L.length = 1 ∧ ElsOK p L ∧ IntsP (fun b => W0.heap.size ≤ b) w A c L
  xl : Ld 9 = true → Ld 6 = true ∧ ∃ g A c L, V 9 = .slice (some ⟨g, 0, none⟩) 1 1 ∧ W0.heap.size ≤ g ∧ w.heap[g]? = some (.cells #[.int .i64 h, slV A L.length c] 35 (0, 0)) ∧ L.length = 1 ∧ ElsOK p L ∧ IntsP (fun b => W0.heap.size ≤ b) w A c L
  b0 : Ld 10 = false → RowsV N w base v1 S
  b1 : Ld 10 = true → (Ld 6 = true ∧ Ld 1 = true) ∧ ∃ g c L, V 10 = slV (some ⟨g, 0, none⟩) (S.length + 1) c ∧ (v1.ownBlock = some g ∨ W0.heap.size ≤ g) ∧ L.length = 1 ∧ ElsOK p L ∧ RowsV (fun b => N b ∨ W0.heap.size ≤ b) w base (V 10) (S ++ [(h, L)])
  x2 : Ld 11 = true → V 11 = .pointer (some ⟨gx, fld, none⟩)
  c0 : Ld 12 = false → GC w v1
  c1 : Ld 12 = true → Ld 10 = true ∧ GC w (V 10)
section
variable {W0 : World} {gx fld D px base : Nat} {R : List Int} {p : Nat} {k : Nat} {h : Int} {v1 : Value} {GC : World → Value → Prop} {N : Nat → Prop} {S : List Shr} {V : Nat → Value} {Ld : Nat → Bool} {w w' : World}
theorem GiB.start (B : GBase W0 gx D px base R v1 GC N S) (V : Nat → Value) (HG : GCell gx fld GC) : GiB W0 gx fld D px base R p k h v1 GC N S V (fun _ => false) W0.drew where
  sv := (Sav.refl _ _).trans (Sav.of_below (Below.refl _ _).drew)
  d0 _ := B.dice.below (Below.refl _ _).drew
  d1 e := by cases e
  x0 e := by cases e
  x1 e := by cases e
  xh e := by cases e
  xp e := by cases e
  xq e := by cases e
  xd e := by cases e
  xn e := by cases e
  xu e := by cases e
  xb e := by cases e
  xl e := by cases e
  b0 _ := B.row.below (Below.refl _ _).drew
  b1 e := by cases e
  x2 e := by cases e
  c0 _ := HG.keep _ _ _ B.cell rfl
  c1 e := by cases e
theorem GiB.grow (H : GiB W0 gx fld D px base R p k h v1 GC N S V Ld w) (HG : GCell gx fld GC) {r : Option Nat} (hg : w.grownBy w' r) (hr : ∀ x, r = some x → x < W0.heap.size ∧ (x = D ∨ x = gx ∨ v1.ownBlock = some x))
    (hd0 : Ld 6 = false → DiceAt w' D R) (hd1 : Ld 6 = true → DiceAt w' D R.tail)
    (hb0 : Ld 10 = false → RowsV N w' base v1 S) (hb1 : Ld 10 = true → (Ld 6 = true ∧ Ld 1 = true) ∧ ∃ g c L, V 10 = slV (some ⟨g, 0, none⟩) (S.length + 1) c ∧ (v1.ownBlock = some g ∨ W0.heap.size ≤ g) ∧ L.length = 1 ∧ ElsOK p L ∧ RowsV (fun b => N b ∨ W0.heap.size ≤ b) w' base (V 10) (S ++ [(h, L)]))
    (hc0 : Ld 12 = false → GC w' v1) (hc1 : Ld 12 = true → Ld 10 = true ∧ GC w' (V 10)) : GiB W0 gx fld D px base R p k h v1 GC N S V Ld w' := { H with
  sv := H.sv.trans (grown_save hg (fun x e => (hr x e).2))
  d0 := hd0
  d1 := hd1
  xu := fun e => by obtain ⟨e0, A, c, L, e1, e2, e3, e4⟩ := H.xu e; exact ⟨e0, A, c, L, e1, e2, e3, e4.grown hg (fun b hb e => by have := (hr b e).1; omega)⟩
  xb := fun e => by obtain ⟨e0, A, c, L, e1, e2, e3, e4⟩ := H.xb e; exact ⟨e0, A, c, L, e1, e2, e3, e4.grown hg (fun b hb e => by have := (hr b e).1; omega)⟩
  xl := fun e => by obtain ⟨e0, g, A, c, L, e1, e2, e5, e3, e4, e6⟩ := H.xl e; exact ⟨e0, g, A, c, L, e1, e2, (hg.block g (blk_lt e5) (fun e => by have := (hr g e.symm).1; omega)).trans e5, e3, e4, e6.grown hg (fun b hb e => by have := (hr b e).1; omega)⟩
  b0 := hb0
  b1 := hb1
  c0 := hc0
  c1 := hc1 }
theorem GiB.move (H : GiB W0 gx fld D px base R p k h v1 GC N S V Ld w) (HG : GCell gx fld GC) (hb : Below w.heap.size w w') : GiB W0 gx fld D px base R p k h v1 GC N S V Ld w' :=
  H.grow HG (r := none) ⟨hb.os, hb.tape, hb.output, hb.size, fun k hk _ => hb.block k hk⟩ (fun x e => by cases e) (fun e => (H.d0 e).below hb) (fun e => (H.d1 e).below hb) (fun e => (H.b0 e).below hb)
    (fun e => by obtain ⟨e0, g, c, L, e1, e2, e3, e4, e5⟩ := H.b1 e; exact ⟨e0, g, c, L, e1, e2, e3, e4, e5.below hb⟩) (fun e => HG.keep _ _ _ (H.c0 e) (hb.block _ (HG.lt _ _ (H.c0 e)))) (fun e => ⟨(H.c1 e).1, HG.keep _ _ _ (H.c1 e).2 (hb.block _ (HG.lt _ _ (H.c1 e).2))⟩)
theorem GiB.oNext (H : GiB W0 gx fld D px base R p k h v1 GC N S V Ld w) (HG : GCell gx fld GC) (B : GBase W0 gx D px base R v1 GC N S) (hL : Ld 6 = false) {x : Int} (hx : 0 ≤ x ∧ x < (p : Int)) (hd : DiceAt w' D R.tail) (hg : w.grownBy w' (some D)) : GiB W0 gx fld D px base R p k h v1 GC N S (updV V 6 (.int .i64 x)) (upd Ld 6) w' := by
  have hA : Ld 10 = false := by
    cases q : Ld 10 with
    | false => rfl
    | true => exact nfC hL (H.b1 q).1.1
  have hS : Ld 12 = false := by
    cases q : Ld 12 with
    | false => rfl
    | true => exact nfC hA (H.c1 q).1
  have b1 := B.dp
  have b2 := B.pg
  have b3 := B.gb
  have b4 := B.bs
  exact { H with
    sv := H.sv.trans (grown_save hg (fun y e => by injection e with e; exact .inl e.symm))
    d0 := fun e => by cases e
    d1 := fun _ => hd
    xn := fun _ => ⟨x, rfl, hx⟩
    xu := fun e => nfC hL (H.xu e).1
    xb := fun e => nfC hL (H.xb e).1
    xl := fun e => nfC hL (H.xl e).1
    b0 := fun _ => (H.b0 hA).kept hg (.inr (fun e => by have := ((H.b0 hA).lt D e).1; omega)) (fun b hb e => by injection e with e; have := (B.nb b hb).1; omega)
    b1 := fun e => nfC hL (H.b1 e).1.1
    c0 := fun _ => HG.keep _ _ _ (H.c0 hS) (hg.block gx (HG.lt _ _ (H.c0 hS)) (fun e => by injection e with e; omega))
    c1 := fun e => nfC hS e }
theorem GiB.oApp (H : GiB W0 gx fld D px base R p k h v1 GC N S V Ld w) (HG : GCell gx fld GC) (B : GBase W0 gx D px base R v1 GC N S) (hL : Ld 10 = false) (hN : Ld 6 = true) (hN1 : Ld 1 = true) {g c : Nat} {A : Option Addr} {ac : Nat} {L : List Int} {HH : List HV} (hl : L.length = 1) (hE : ElsOK p L) (hI : IntsP (fun b => W0.heap.size ≤ b) w A ac L)
    (e2 : HH.length = S.length) (e3 : ∀ k, k < S.length → (hvAt HH k).1 = hS S k ∧ ∃ B c, (hvAt HH k).2 = .slice B (vS S k).length c ∧ IntsP (fun b => N b ∧ v1.ownBlock ≠ some b) w B c (vS S k))
    (hown : HvOwn w' base (.slice (some ⟨g, 0, none⟩) (S.length + 1) c) (HH ++ [(h, .slice A L.length ac)])) (hg : w.grownBy w' v1.ownBlock) (hat : v1.ownBlock = some g ∨ g = w.heap.size) : GiB W0 gx fld D px base R p k h v1 GC N S (updV V 10 (.slice (some ⟨g, 0, none⟩) (S.length + 1) c)) (upd Ld 10) w' := by
  have hS : Ld 12 = false := by
    cases q : Ld 12 with
    | false => rfl
    | true => exact nfC hL (H.c1 q).1
  have b1 := B.dp
  have b2 := B.pg
  have b3 := B.gb
  have b4 := B.bs
  have hv := B.row.lt
  have hsz := H.sv.size
  have hD := (H.d1 hN).lt
  exact { H with
    sv := H.sv.trans (grown_save hg (fun y e => .inr (.inr e)))
    d0 := fun e => nfC e hN
    d1 := fun _ => (H.d1 hN).keep (fun j hj => hg.block j (by omega) (fun e => by have := (hv j e.symm).1; omega))
    xu := fun e => by obtain ⟨e0, A, c, L, e1, e2, e3, e4⟩ := H.xu e; exact ⟨e0, A, c, L, e1, e2, e3, e4.grown hg (fun b hb e => by have := (hv b e).2; omega)⟩
    xb := fun e => by obtain ⟨e0, A, c, L, e1, e2, e3, e4⟩ := H.xb e; exact ⟨e0, A, c, L, e1, e2, e3, e4.grown hg (fun b hb e => by have := (hv b e).2; omega)⟩
    xl := fun e => by obtain ⟨e0, g, A, c, L, e1, e2, e5, e3, e4, e6⟩ := H.xl e; exact ⟨e0, g, A, c, L, e1, e2, (hg.block g (blk_lt e5) (fun e => by have := (hv g e.symm).2; omega)).trans e5, e3, e4, e6.grown hg (fun b hb e => by have := (hv b e).2; omega)⟩
    b0 := fun e => by cases e
    b1 := fun _ => ⟨⟨hN, hN1⟩, g, c, L, rfl, hat.imp id (fun e => by omega), hl, hE,
      RowsV.more e2 (fun k hk => by obtain ⟨f1, B', c', f2, f3⟩ := e3 k hk; exact ⟨f1, B', c', f2, f3.mono (fun b _ hb => ⟨.inl hb.1, hb.2⟩)⟩) h L (hI.mono (fun b _ hb => ⟨.inr hb, fun e => by have := (hv b e).2; omega⟩)) hown hg (hat.elim (fun e => .inl e.symm) (fun e => .inr (by rw [e]; rfl)))⟩
    c0 := fun _ => HG.keep _ _ _ (H.c0 hS) (hg.block gx (HG.lt _ _ (H.c0 hS)) (fun e => by have := (hv gx e.symm).1; omega))
    c1 := fun e => nfC hS e }
theorem GiB.oStore (H : GiB W0 gx fld D px base R p k h v1 GC N S V Ld w) (HG : GCell gx fld GC) (B : GBase W0 gx D px base R v1 GC N S) (hL : Ld 12 = false) (hA : Ld 10 = true) : ∃ w', (Instr.storeAt 33 (.pointer (some ⟨gx, fld, none⟩)) (V 10)).run Tryd.prog w = .ok () w' ∧ GiB W0 gx fld D px base R p k h v1 GC N S (updV V 12 undef) (upd Ld 12) w' := by
  obtain ⟨⟨hN, hN1⟩, g, c, L, q1, q2, q3, q4, q5⟩ := H.b1 hA
  obtain ⟨s1, s2⟩ := HG.store w v1 (some ⟨g, 0, none⟩) (S.length + 1) c (H.c0 hL)
  have hg := grown_setc w ⟨gx, fld, none⟩ (slV (some ⟨g, 0, none⟩) (S.length + 1) c)
  have b1 := B.dp
  have b2 := B.pg
  have b3 := B.gb
  have b4 := B.bs
  have hv := B.row.lt
  have hsz := H.sv.size
  have hD := (H.d1 hN).lt
  have hgb : gx < g := by
    rcases q2 with e | e
    · have := (hv g e).1; omega
    · omega
  refine ⟨_, by rw [q1]; exact s1, { H with
    sv := H.sv.trans (grown_save hg (fun y e => by injection e with e; exact .inr (.inl e.symm)))
    d0 := fun e => nfC e hN
    d1 := fun _ => (H.d1 hN).keep (fun j hj => hg.block j (by omega) (fun e => by injection e with e; have e' : j = gx := e; omega))
    xu := fun e => by obtain ⟨e0, A, c, L, e1, e2, e3, e4⟩ := H.xu e; exact ⟨e0, A, c, L, e1, e2, e3, e4.grown hg (fun b hb e => by injection e with e; have e' : gx = b := e; omega)⟩
    xb := fun e => by obtain ⟨e0, A, c, L, e1, e2, e3, e4⟩ := H.xb e; exact ⟨e0, A, c, L, e1, e2, e3, e4.grown hg (fun b hb e => by injection e with e; have e' : gx = b := e; omega)⟩
    xl := fun e => by obtain ⟨e0, g, A, c, L, e1, e2, e5, e3, e4, e6⟩ := H.xl e; exact ⟨e0, g, A, c, L, e1, e2, (hg.block g (blk_lt e5) (fun e => by injection e with e; have e' : g = gx := e; omega)).trans e5, e3, e4, e6.grown hg (fun b hb e => by injection e with e; have e' : gx = b := e; omega)⟩
    b0 := fun e => nfC e hA
    b1 := fun _ => ⟨⟨hN, hN1⟩, g, c, L, q1, q2, q3, q4, q5.kept hg (.inr (fun e => by rw [q1] at e; have e' : some g = some gx := e; injection e' with e'; omega)) (fun b hb e => by
      injection e with e
      have e' : gx = b := e
      rcases hb with hb | hb
      · exact (B.nb b hb).2.1 e'.symm
      · omega)⟩
    c0 := fun e => by cases e
    c1 := fun _ => ⟨hA, by rw [show (updV V 12 undef) 10 = V 10 from rfl, q1]; exact s2⟩ }⟩
end
end Go.Proofs.YtjckpammcgeloaaDoor
