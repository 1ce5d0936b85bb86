/-
  AttackerRaw: the walk.
  law42's agree: all functions return what the document returns.
  Conditions: those that each theorem names.
-/
import Derived.Test.YtjckpammcgeloaaDoorM13
set_option linter.unusedVariables false
set_option linter.unusedSimpArgs false
namespace Go.Proofs.YtjckpammcgeloaaDoor
open Go.RowKit

theorem lit_two {P : Nat → Prop} {w : World} {g : Nat} {x y : Int} {B C : Option Addr} {c d : Nat} {L M : List Int} (hg : w.heap[g]? = some (.cells #[.int .i64 x, .slice B L.length c, .int .i64 y, .slice C M.length d] 35 (0, 0))) (hP : P g) (hI : IntsP P w B c L) (hJ : IntsP P w C d M) : ShP P w (some ⟨g, 0, none⟩) 2 [(x, L), (y, M)] := by
  refine ⟨fun k hk => ?_, ⟨by simp, by unfold maxLen; omega, (fun e => by cases e), .inr (fun a e => by injection e with e; subst e; rfl)⟩⟩
  have : k = 0 ∨ k = 1 := by simp at hk; omega
  rcases this with rfl | rfl
  · refine ⟨g, 0, B, c, rfl, blk_lt hg, hP, ?_, ?_, hI⟩
    · rw [cell_of_row w g (0 + 0 * 2) _ _ (0, 0) hg]; rfl
    · rw [cell_of_row w g (0 + 0 * 2 + 1) _ _ (0, 0) hg]; rfl
  · refine ⟨g, 0, C, d, rfl, blk_lt hg, hP, ?_, ?_, hJ⟩
    · rw [cell_of_row w g (0 + 1 * 2) _ _ (0, 0) hg]; rfl
    · rw [cell_of_row w g (0 + 1 * 2 + 1) _ _ (0, 0) hg]; rfl
theorem tiny_of {G : GiftD} (h1 : smB G.bx = true) (h2 : smB G.wh = true) (hk : G.kv.length ≤ 20) : GTiny G := by
  obtain ⟨a1, a2⟩ := smB_of h1
  obtain ⟨b1, b2⟩ := smB_of h2
  exact ⟨fun k hk => by have := a2 k hk; omega, fun k hk => by have := b2 k hk; omega, by omega, by omega, by omega⟩
theorem valsG_len {G : GiftD} (h : GTiny G) : (valsG G).length ≤ 1152921504606846976 := by
  have h1 := h.all
  have := vlsK_len h1.1 (allS G).length (Nat.le_refl _)
  unfold valsG
  have := Nat.mul_le_mul_right 1000 h1.2
  omega
theorem difP_self (G : GiftD) : difP G G = false := by
  unfold difP
  rw [show sameL (valsG G) (valsG G) = true from by simp [sameL]]
  simp
set_option maxRecDepth 100000 in
set_option maxHeartbeats 8000000 in
theorem attackerRaw_walk (u : Value) (G : GiftD) (v : Value) (K : GiftD) (w : World) (hB : Bases w) (hG : GiftR (fun _ => True) w u G) (hg1 : G.bx.length ≤ maxLen) (hg2 : G.wh.length ≤ maxLen) (hK : GiftR (fun _ => True) w v K) (hk1 : K.bx.length ≤ maxLen) (hk2 : K.wh.length ≤ maxLen) :
    Calls Tryd.prog 4 #[u, v] w (RetB (.bool true) w) := by
  have HB := Lib.hid hB
  have HG := Lib.hid hG
  have HK := Lib.hid hK
  obtain ⟨A, ca, B, cb, C, cc, rfl, h1, h2, h3⟩ := hG
  obtain ⟨A', ca', B', cb', C', cc', rfl, k1, k2, k3⟩ := hK
  have S1 := Lib.hid (fun (W : World) (hb : Below w.heap.size w W) => small_any A ca G.bx W (h1.below hb) hg1)
  have S2 := Lib.hid (fun (W : World) (hb : Below w.heap.size w W) => small_any A' ca' K.bx W (k1.below hb) hk1)
  have S3 := Lib.hid (fun (W : World) (hb : Below w.heap.size w W) => small_any B cb G.wh W (h2.below hb) hg2)
  have S4 := Lib.hid (fun (W : World) (hb : Below w.heap.size w W) => small_any B' cb' K.wh W (k2.below hb) hk2)
  have S5 := Lib.hid (fun (W : World) (hb : Below w.heap.size w W) (g : Nat) (hg : W.heap[g]? = some (.cells #[.int .i64 G.kh, .slice C G.kv.length cc, .int .i64 K.kh, .slice C' K.kv.length cc'] 35 (0, 0))) =>
    small_any (some ⟨g, 0, none⟩) 2 [(G.kh, G.kv), (K.kh, K.kv)] W (lit_two (P := fun _ => True) hg trivial (h3.keep (Kept.below hb)) (k3.keep (Kept.below hb))) (by unfold maxLen; simp))
  have HT := Lib.hid (fun (q1 : smB G.bx = true) (q2 : smB K.bx = true) (q3 : smB G.wh = true) (q4 : smB K.wh = true) (q5 : smB [(G.kh, G.kv), (K.kh, K.kv)] = true) => (show GTiny G ∧ GTiny K from by
    obtain ⟨-, q6⟩ := smB_of q5
    exact ⟨tiny_of q1 q3 (q6 0 (by simp)), tiny_of q2 q4 (q6 1 (by simp))⟩))
  have HEQ := Lib.hid (dif_same G K)
  have HDG := Lib.hid (And.intro (difP_self K) (eqG_refl G))
  clear h1 h2 h3 k1 k2 k3 hB hg1 hg2 hk1 hk2
  have HXP := Lib.hid (show ∀ (W : World) (_ : Below w.heap.size w W) (_ : GTiny G) (_ : GTiny K), Calls Tryd.prog 17 #[giftV G.h (.slice A G.bx.length ca) (.slice B G.wh.length cb) G.kh (.slice C G.kv.length cc), giftV K.h (.slice A' K.bx.length ca') (.slice B' K.wh.length cb') K.kh (.slice C' K.kv.length cc')] W (RetB (.bool (eqG G K)) W) from fun W hb s1 s2 => same_gift _ _ G K W (HG.out.below hb) (HK.out.below hb) s1.small)
  have HXR := Lib.hid (show ∀ (W : World) (_ : Below w.heap.size w W) (_ : GTiny G) (_ : GTiny K), Calls Tryd.prog 18 #[giftV G.h (.slice A G.bx.length ca) (.slice B G.wh.length cb) G.kh (.slice C G.kv.length cc), giftV K.h (.slice A' K.bx.length ca') (.slice B' K.wh.length cb') K.kh (.slice C' K.kv.length cc')] W (RetB (.bool (eqG G K)) W) from fun W hb s1 s2 => ref42Same_any _ _ G K W (HG.out.below hb) (HK.out.below hb) s1.small)
  have HXS := Lib.hid (show ∀ (W : World) (_ : Below w.heap.size w W) (_ : GTiny G), Calls Tryd.prog 17 #[giftV G.h (.slice A G.bx.length ca) (.slice B G.wh.length cb) G.kh (.slice C G.kv.length cc), giftV G.h (.slice A G.bx.length ca) (.slice B G.wh.length cb) G.kh (.slice C G.kv.length cc)] W (RetB (.bool true) W) from fun W hb s1 => by
    have := same_gift _ _ G G W (HG.out.below hb) (HG.out.below hb) s1.small
    rw [HDG.out.2] at this; exact this)
  have HDP := Lib.hid (show ∀ (W : World) (_ : Below w.heap.size w W) (_ : GTiny G) (_ : GTiny K), Calls Tryd.prog 19 #[giftV G.h (.slice A G.bx.length ca) (.slice B G.wh.length cb) G.kh (.slice C G.kv.length cc), giftV K.h (.slice A' K.bx.length ca') (.slice B' K.wh.length cb') K.kh (.slice C' K.kv.length cc')] W (RetB (.bool (difP G K)) W) from fun W hb s1 s2 => differs_any _ _ G K W (HG.out.below hb) (HK.out.below hb) s1 s2 (valsG_len s1))
  have HDR := Lib.hid (show ∀ (W : World) (_ : Below w.heap.size w W) (_ : GTiny G) (_ : GTiny K), Calls Tryd.prog 20 #[giftV G.h (.slice A G.bx.length ca) (.slice B G.wh.length cb) G.kh (.slice C G.kv.length cc), giftV K.h (.slice A' K.bx.length ca') (.slice B' K.wh.length cb') K.kh (.slice C' K.kv.length cc')] W (RetB (.bool (difP G K)) W) from fun W hb s1 s2 => by
    have := refDiffers_any _ _ G K W (HG.out.below hb) (HK.out.below hb) s1.small
    rw [← HEQ.out] at this; exact this)
  have HDS := Lib.hid (show ∀ (W : World) (_ : Below w.heap.size w W) (_ : GTiny K), Calls Tryd.prog 19 #[giftV K.h (.slice A' K.bx.length ca') (.slice B' K.wh.length cb') K.kh (.slice C' K.kv.length cc'), giftV K.h (.slice A' K.bx.length ca') (.slice B' K.wh.length cb') K.kh (.slice C' K.kv.length cc')] W (RetB (.bool false) W) from fun W hb s1 => by
    have := differs_any _ _ K K W (HK.out.below hb) (HK.out.below hb) s1 s1 (valsG_len s1)
    rw [HDG.out.1] at this; exact this)
  clear HEQ HDG HG HK
  generalize eqG G K = q at *
  generalize difP G K = d at *
  obtain ⟨gh, S, T, gkh, M⟩ := G
  obtain ⟨kh, S', T', kkh, M'⟩ := K
  simp only at *
  go_enter Tryd.func4, Tryd.ntmps4
  go_upto_region 1 with fail
  refine gen_world fun w1 hw1 => ?_
  have hb1 : Below w.heap.size w w1 := by rw [hw1]; exact bl_alloc _ (below_alloc _ _)
  have HC := Lib.hid (show GiftCell w1 w.heap.size gh (.slice A S.length ca) (.slice B T.length cb) gkh (.slice C M.length cc) from by rw [hw1]; exact (GiftCell.new _ _ _ _ _ rfl).alloc _)
  have HD := Lib.hid (show GiftCell w1 (w.heap.size + 1) kh (.slice A' S'.length ca') (.slice B' T'.length cb') kkh (.slice C' M'.length cc') from by rw [hw1]; exact GiftCell.new _ _ _ _ _ (by simp))
  clear hw1
  have HB1 := Lib.hid hb1
  clear hb1
  have x1 := HC.out.c1
  have x2 := HC.out.c2
  have y1 := HD.out.c1
  have y2 := HD.out.c2
  have lx := HC.out.lt
  have ly := HD.out.lt
  by_cases l1 : (S.length : Int) ≤ 10
  · skip
    by_cases l2 : (S'.length : Int) ≤ 10
    · skip
      by_cases l3 : (T.length : Int) ≤ 10
      · skip
        by_cases l4 : (T'.length : Int) ≤ 10
        · skip
          go_wp2_with fail
          refine ret_below (S1.out _ HB1.out) fun w2 hb2 => ?_
          replace HC := Lib.hid (HC.out.below hb2)
          replace HD := Lib.hid (HD.out.below hb2)
          replace HB1 := Lib.hid (below_trans HB1.out hb2)
          clear x1 x2 y1 y2 lx ly
          have x1 := HC.out.c1
          have x2 := HC.out.c2
          have y1 := HD.out.c1
          have y2 := HD.out.c2
          have lx := HC.out.lt
          have ly := HD.out.lt
          cases q1 : smB S with
          | false =>
            clear q1
            go_wp2_with fail
            refine ret_below (awake42 _ (HB.out.below HB1.out HB.out.1)) fun w9 hb9 => ?_
            go_wp2_with fail
            go_ret
            exact RetB.bool rfl (below_trans HB1.out hb9)
          | true =>
            have Q1 := Lib.hid q1
            clear q1
            go_wp2_with fail
            refine ret_below (S2.out _ HB1.out) fun w3 hb3 => ?_
            replace HC := Lib.hid (HC.out.below hb3)
            replace HD := Lib.hid (HD.out.below hb3)
            replace HB1 := Lib.hid (below_trans HB1.out hb3)
            clear x1 x2 y1 y2 lx ly
            have x1 := HC.out.c1
            have x2 := HC.out.c2
            have y1 := HD.out.c1
            have y2 := HD.out.c2
            have lx := HC.out.lt
            have ly := HD.out.lt
            cases q2 : smB S' with
            | false =>
              clear q2
              go_wp2_with fail
              refine ret_below (awake42 _ (HB.out.below HB1.out HB.out.1)) fun w9 hb9 => ?_
              go_wp2_with fail
              go_ret
              exact RetB.bool rfl (below_trans HB1.out hb9)
            | true =>
              have Q2 := Lib.hid q2
              clear q2
              go_wp2_with fail
              refine ret_below (S3.out _ HB1.out) fun w4 hb4 => ?_
              replace HC := Lib.hid (HC.out.below hb4)
              replace HD := Lib.hid (HD.out.below hb4)
              replace HB1 := Lib.hid (below_trans HB1.out hb4)
              clear x1 x2 y1 y2 lx ly
              have x1 := HC.out.c1
              have x2 := HC.out.c2
              have y1 := HD.out.c1
              have y2 := HD.out.c2
              have lx := HC.out.lt
              have ly := HD.out.lt
              cases q3 : smB T with
              | false =>
                clear q3
                go_wp2_with fail
                refine ret_below (awake42 _ (HB.out.below HB1.out HB.out.1)) fun w9 hb9 => ?_
                go_wp2_with fail
                go_ret
                exact RetB.bool rfl (below_trans HB1.out hb9)
              | true =>
                have Q3 := Lib.hid q3
                clear q3
                go_wp2_with fail
                refine ret_below (S4.out _ HB1.out) fun w5 hb5 => ?_
                replace HC := Lib.hid (HC.out.below hb5)
                replace HD := Lib.hid (HD.out.below hb5)
                replace HB1 := Lib.hid (below_trans HB1.out hb5)
                clear x1 x2 y1 y2 lx ly
                have x1 := HC.out.c1
                have x2 := HC.out.c2
                have y1 := HD.out.c1
                have y2 := HD.out.c2
                have lx := HC.out.lt
                have ly := HD.out.lt
                cases q4 : smB T' with
                | false =>
                  clear q4
                  go_wp2_with fail
                  refine ret_below (awake42 _ (HB.out.below HB1.out HB.out.1)) fun w9 hb9 => ?_
                  go_wp2_with fail
                  go_ret
                  exact RetB.bool rfl (below_trans HB1.out hb9)
                | true =>
                  have Q4 := Lib.hid q4
                  clear q4
                  have x3 := HC.out.c3
                  have x4 := HC.out.c4
                  have y3 := HD.out.c3
                  have y4 := HD.out.c4
                  go_wp2_with fail
                  refine gen_calls fun w6 hw6 => ?_
                  have hb6 : Below w5.heap.size w5 w6 := by rw [hw6]; exact below_alloc _ _
                  have hg6 : w6.heap[w5.heap.size]? = some (.cells #[.int .i64 gkh, .slice C M.length cc, .int .i64 kkh, .slice C' M'.length cc'] 35 (0, 0)) := by rw [hw6]; exact heap_alloc_new _ _
                  clear hw6 x3 x4 y3 y4
                  replace HB1 := Lib.hid (below_trans HB1.out hb6)
                  refine ret_below (S5.out _ HB1.out _ hg6) fun w7 hb7 => ?_
                  replace HC := Lib.hid (HC.out.below (below_trans hb6 hb7))
                  replace HD := Lib.hid (HD.out.below (below_trans hb6 hb7))
                  replace HB1 := Lib.hid (below_trans HB1.out hb7)
                  clear x1 x2 y1 y2 lx ly hg6 hb6 hb7 hb2 hb3 hb4 hb5
                  cases q5 : smB [(gkh, M), (kkh, M')] with
                  | false =>
                    clear q5
                    go_wp2_with fail
                    refine ret_below (awake42 _ (HB.out.below HB1.out HB.out.1)) fun w9 hb9 => ?_
                    go_wp2_with fail
                    go_ret
                    exact RetB.bool rfl (below_trans HB1.out hb9)
                  | true =>
                    obtain ⟨sG, sK⟩ := HT.out Q1.out Q2.out Q3.out Q4.out q5
                    have C1 := Lib.hid (fun (W : World) (hb : Below w.heap.size w W) => HXP.out W hb sG sK)
                    have C2 := Lib.hid (fun (W : World) (hb : Below w.heap.size w W) => HXR.out W hb sG sK)
                    have C3 := Lib.hid (fun (W : World) (hb : Below w.heap.size w W) => HXS.out W hb sG)
                    have C4 := Lib.hid (fun (W : World) (hb : Below w.heap.size w W) => HDP.out W hb sG sK)
                    have C5 := Lib.hid (fun (W : World) (hb : Below w.heap.size w W) => HDR.out W hb sG sK)
                    have C6 := Lib.hid (fun (W : World) (hb : Below w.heap.size w W) => HDS.out W hb sK)
                    clear q5 sG sK HT HXP HXR HXS HDP HDR HDS Q1 Q2 Q3 Q4 S1 S2 S3 S4 S5
                    have x0 := HC.out.c0
                    have x1 := HC.out.c1
                    have x2 := HC.out.c2
                    have x3 := HC.out.c3
                    have x4 := HC.out.c4
                    have y0 := HD.out.c0
                    have y1 := HD.out.c1
                    have y2 := HD.out.c2
                    have y3 := HD.out.c3
                    have y4 := HD.out.c4
                    have lx := HC.out.lt
                    have ly := HD.out.lt
                    go_wp2_with fail
                    have fq : (q == q) = true := beq_self_eq_true q
                    have fd : (d == d) = true := beq_self_eq_true d
                    refine wp_region_grew (by kernel_rfl) (by kernel_rfl) ?_
                    iterate 20 (go_big_quiet_step ((first
                      | (go_at_call 8; exact grew_of (awake42 _ (HB.out.below (below_trans HB1.out (grewW.below _ _)) HB.out.1)))
                      | (go_at_call 17; exact grew_of (C1.out _ (below_trans HB1.out (grewW.below _ _))))
                      | (go_at_call 18; exact grew_of (C2.out _ (below_trans HB1.out (grewW.below _ _))))
                      | (go_at_call 19; exact grew_of (C4.out _ (below_trans HB1.out (grewW.below _ _))))
                      | (go_at_call 20; exact grew_of (C5.out _ (below_trans HB1.out (grewW.below _ _)))))))
                    repeat (go_big_quiet_step ((first
                      | (go_at_call 17; exact grew_of (C3.out _ (below_trans HB1.out (grewW.below _ _))))
                      | (go_at_call 19; exact grew_of (C6.out _ (below_trans HB1.out (grewW.below _ _)))))))
                    refine wpQuiet_nil ?_
                    intro w8 hb8
                    go_wp2_with fail
                    go_ret
                    exact RetB.bool rfl (below_trans HB1.out hb8)
        · have l4' : (10 : Int) < (T'.length : Int) := by omega
          go_wp2_with fail
          refine ret_below (awake42 _ (HB.out.below HB1.out HB.out.1)) fun w9 hb9 => ?_
          go_wp2_with fail
          go_ret
          exact RetB.bool rfl (below_trans HB1.out hb9)
      · have l3' : (10 : Int) < (T.length : Int) := by omega
        go_wp2_with fail
        refine ret_below (awake42 _ (HB.out.below HB1.out HB.out.1)) fun w9 hb9 => ?_
        go_wp2_with fail
        go_ret
        exact RetB.bool rfl (below_trans HB1.out hb9)
    · have l2' : (10 : Int) < (S'.length : Int) := by omega
      go_wp2_with fail
      refine ret_below (awake42 _ (HB.out.below HB1.out HB.out.1)) fun w9 hb9 => ?_
      go_wp2_with fail
      go_ret
      exact RetB.bool rfl (below_trans HB1.out hb9)
  · have l1' : (10 : Int) < (S.length : Int) := by omega
    go_wp2_with fail
    refine ret_below (awake42 _ (HB.out.below HB1.out HB.out.1)) fun w9 hb9 => ?_
    go_wp2_with fail
    go_ret
    exact RetB.bool rfl (below_trans HB1.out hb9)
end Go.Proofs.YtjckpammcgeloaaDoor
namespace Go.Proofs.YtjckpammcgeloaaDoor
open Go.RowKit

theorem enter_sg34 (args : Array Value) (w : World) : (callFunc 22 args).run Tryd.prog w = .ok (.enter 22 args) w :=
  Go.MuLone.run_callFunc_enter Tryd.func22 (by kernel_rfl) rfl args w
theorem enter_chk (args : Array Value) (w : World) : (callFunc 25 args).run Tryd.prog w = .ok (.enter 25 args) w :=
  Go.MuLone.run_callFunc_enter Tryd.func25 (by kernel_rfl) rfl args w
theorem enter_rchk (args : Array Value) (w : World) : (callFunc 29 args).run Tryd.prog w = .ok (.enter 29 args) w :=
  Go.MuLone.run_callFunc_enter Tryd.func29 (by kernel_rfl) rfl args w
theorem enter_same (args : Array Value) (w : World) : (callFunc 17 args).run Tryd.prog w = .ok (.enter 17 args) w :=
  Go.MuLone.run_callFunc_enter Tryd.func17 (by kernel_rfl) rfl args w
theorem enter_rsame (args : Array Value) (w : World) : (callFunc 18 args).run Tryd.prog w = .ok (.enter 18 args) w :=
  Go.MuLone.run_callFunc_enter Tryd.func18 (by kernel_rfl) rfl args w
theorem enter_dif (args : Array Value) (w : World) : (callFunc 19 args).run Tryd.prog w = .ok (.enter 19 args) w :=
  Go.MuLone.run_callFunc_enter Tryd.func19 (by kernel_rfl) rfl args w
theorem enter_rdif (args : Array Value) (w : World) : (callFunc 20 args).run Tryd.prog w = .ok (.enter 20 args) w :=
  Go.MuLone.run_callFunc_enter Tryd.func20 (by kernel_rfl) rfl args w
theorem ld_lie {w : World} {x : Nat} {h k b : Int} (H : LieCell w x h k b) : (Instr.loadAt 42 (.pointer (some ⟨x, 0, none⟩))).run Tryd.prog w = .ok (lieV h k b) w := by
  have h0 := H.c0
  have h1 := H.c1
  have h2 := H.c2
  go_simp
theorem tiny_name {G : GiftD} {y kh : Int} {gh : Int} (h : GTiny G) : GTiny ⟨gh, G.bx.map (nameS y), G.wh.map (nameS y), kh, G.kv⟩ :=
  ⟨fun k hk => by show (vS (G.bx.map (nameS y)) k).length ≤ 1000; rw [vS_name]; exact h.b k (by simpa using hk), fun k hk => by show (vS (G.wh.map (nameS y)) k).length ≤ 1000; rw [vS_name]; exact h.w k (by simpa using hk), h.k, by show (G.bx.map (nameS y)).length ≤ 1000; rw [List.length_map]; exact h.bl, by show (G.wh.map (nameS y)).length ≤ 1000; rw [List.length_map]; exact h.wl⟩
theorem tiny_zero : GTiny zeroG := ⟨fun k hk => absurd hk (by simp [zeroG]), fun k hk => absurd hk (by simp [zeroG]), by simp [zeroG], by simp [zeroG], by simp [zeroG]⟩
theorem tiny_sp {p : Nat} {n h lh lk lb : Int} {G O X : GiftD} (hG : GTiny G) (hO : GTiny O) (hX : GTiny X) : GTiny (spG p n h lh lk lb G O X) := by
  unfold spG
  split
  · unfold spX
    split
    · exact tiny_val hG
    · split
      · exact tiny_map hG
      · split
        · exact ⟨hO.b, hO.w, hG.k, hO.bl, hO.wl⟩
        · split
          · exact tiny_name hX
          · exact hG
  · exact tiny_zero
def agrPL (p pn ph lh lk lb E ce : Int) (ok q d e : Bool) (h1 h2 h3 h4 h5 y1 y2 y3 y4 y5 : Int) (A1 B1 C1 A2 B2 C2 A3 B3 C3 A4 B4 C4 A5 B5 C5 : Option Addr) (l1 m1 n1 a1 b1 c1 l2 m2 n2 a2 b2 c2 l3 m3 n3 a3 b3 c3 l4 m4 n4 a4 b4 c4 l5 m5 n5 a5 b5 c5 : Nat) : List (Pr Bl) := [Pr.eq (.int .i64 E), Pr.eq (.int .i64 E), Pr.eq (.bool true), Pr.eq (.bool true), Pr.eq (.bool ok), Pr.eq (.bool ok), Pr.eq (.bool true), Pr.eq (.bool true), Pr.eq (.bool true), Pr.eq (giftV h4 (.slice A4 l4 a4) (.slice B4 m4 b4) y4 (.slice C4 n4 c4)), Pr.eq (giftV h5 (.slice A5 l5 a5) (.slice B5 m5 b5) y5 (.slice C5 n5 c5)), Pr.eq (.bool true), Pr.eq (.bool true), Pr.eq (.bool true), Pr.eq (planV p pn ph), Pr.eq (lieV lh lk lb), Pr.eq (.int .i64 ce), Pr.eq (planV p pn ph), Pr.eq (lieV lh lk lb), Pr.eq (.int .i64 ce), Pr.eq (.bool true), Pr.eq (.bool true), Pr.eq (.bool true), Pr.eq (giftV h1 (.slice A1 l1 a1) (.slice B1 m1 b1) y1 (.slice C1 n1 c1)), Pr.eq (giftV h2 (.slice A2 l2 a2) (.slice B2 m2 b2) y2 (.slice C2 n2 c2)), Pr.eq (.bool q), Pr.eq (giftV h1 (.slice A1 l1 a1) (.slice B1 m1 b1) y1 (.slice C1 n1 c1)), Pr.eq (giftV h2 (.slice A2 l2 a2) (.slice B2 m2 b2) y2 (.slice C2 n2 c2)), Pr.eq (.bool q), Pr.eq (.bool true), Pr.eq (.bool true), Pr.eq (.bool true), Pr.eq (giftV h1 (.slice A1 l1 a1) (.slice B1 m1 b1) y1 (.slice C1 n1 c1)), Pr.eq (giftV h5 (.slice A5 l5 a5) (.slice B5 m5 b5) y5 (.slice C5 n5 c5)), Pr.eq (.bool d), Pr.eq (giftV h1 (.slice A1 l1 a1) (.slice B1 m1 b1) y1 (.slice C1 n1 c1)), Pr.eq (giftV h5 (.slice A5 l5 a5) (.slice B5 m5 b5) y5 (.slice C5 n5 c5)), Pr.eq (.bool d), Pr.eq (.bool true), Pr.eq (.bool true), Pr.eq (.bool true), Pr.eq (giftV h1 (.slice A1 l1 a1) (.slice B1 m1 b1) y1 (.slice C1 n1 c1)), Pr.eq (giftV h3 (.slice A3 l3 a3) (.slice B3 m3 b3) y3 (.slice C3 n3 c3)), Pr.eq (.bool e), Pr.eq (giftV h1 (.slice A1 l1 a1) (.slice B1 m1 b1) y1 (.slice C1 n1 c1)), Pr.eq (giftV h3 (.slice A3 l3 a3) (.slice B3 m3 b3) y3 (.slice C3 n3 c3)), Pr.eq (.bool e), Pr.eq (.bool true), Pr.eq (.bool true), Pr.eq (.bool true)]
set_option maxRecDepth 100000 in
set_option maxHeartbeats 16000000 in
theorem agree_any {P P1 P2 : Nat → Prop} (p : Nat) (pn ph lh lk lb : Int) (u v x : Value) (G O X : GiftD) (w : World) (hB : Bases w) (hpr : PrimeN p) (hp : 2 ≤ p) (hp2 : p ≤ 500000003) (hG : GiftR P w u G) (hO : GiftR P1 w v O) (hX : GiftR P2 w x X) (sG : GTiny G) (sO : GTiny O) (sX : GTiny X) :
    Calls Tryd.prog 15 #[planV p pn ph, lieV lh lk lb, u, v, x] w (RetB (.bool true) w) := by
  obtain ⟨hv1, hv2⟩ := prime_valid hpr (by omega)
  have HG := Lib.hid (show GiftR (fun _ => True) w u G from hG.mono (fun _ _ _ => trivial))
  have HO := Lib.hid (show GiftR (fun _ => True) w v O from hO.mono (fun _ _ _ => trivial))
  have HX := Lib.hid (show GiftR (fun _ => True) w x X from hX.mono (fun _ _ _ => trivial))
  have SP := Lib.hid (fun (W : World) (hb : Below w.heap.size w W) => spoil_any p pn ph lh lk lb u v x G O X W (hB.below hb hB.1) (by omega) (by omega) (hG.below hb) (hO.below hb) (hX.below hb) sG.small sO.small sX.small)
  have SR := Lib.hid (fun (W : World) (hb : Below w.heap.size w W) => refSpoil_any p pn ph lh lk lb u v x G O X W hv1 (by omega) (by omega) (hG.below hb) (hO.below hb) (hX.below hb) sG.small sO.small sX.small)
  have TB := tiny_sp (p := p) (n := pn) (h := ph) (lh := lh) (lk := lk) (lb := lb) sG sO sX
  have C2 := Lib.hid (fun (W : World) (hb : Below w.heap.size w W) => check_lie p pn ph lh lk lb W (hB.below hb hB.1))
  have C3 := Lib.hid (fun (W : World) (_ : Below w.heap.size w W) => refCheck_lie p pn ph lh lk lb W hv1)
  have C4 := Lib.hid (fun (W : World) (hb : Below w.heap.size w W) => same_gift u v G O W (hG.below hb) (hO.below hb) sG.small)
  have C5 := Lib.hid (fun (W : World) (hb : Below w.heap.size w W) => ref42Same_any u v G O W (hG.below hb) (hO.below hb) sG.small)
  have HD := Lib.hid (fun (K : GiftD) => dif_same G K)
  have C6 := Lib.hid (fun (W : World) (y : Value) (hb : Below w.heap.size w W) (hy : GiftR (fun _ => True) W y (spG p pn ph lh lk lb G O X)) => differs_any u y G _ W (hG.below hb) hy sG TB (valsG_len sG))
  have C7 := Lib.hid (fun (W : World) (y : Value) (hb : Below w.heap.size w W) (hy : GiftR (fun _ => True) W y (spG p pn ph lh lk lb G O X)) => refDiffers_any u y G _ W (hG.below hb) hy sG.small)
  have C8 := Lib.hid (fun (W : World) (hb : Below w.heap.size w W) => differs_any u x G X W (hG.below hb) (hX.below hb) sG sX (valsG_len sG))
  have C9 := Lib.hid (fun (W : World) (hb : Below w.heap.size w W) => refDiffers_any u x G X W (hG.below hb) (hX.below hb) sG.small)
  rw [← HD.out X] at C9
  rw [← HD.out (spG p pn ph lh lk lb G O X)] at C7
  have C1 := Lib.hid (fun (W : World) (y z : Value) (hy : GiftR (fun _ => True) W y (spG p pn ph lh lk lb G O X)) (hz : GiftR (fun _ => True) W z (spG p pn ph lh lk lb G O X)) => (show Calls Tryd.prog 22 #[y, z] W (RetB (.bool true) W) from by
    have := refSame_gift y z _ _ W hy hz TB.small
    rw [eqG_refl] at this
    exact this))
  clear hG hO hX hB hv1 hv2 hpr HD
  generalize spE p pn ph lh lk G = E at *
  generalize spB p pn ph lh lk G = ok at *
  generalize eqG G O = q at *
  generalize difP G X = e at *
  generalize difP G (spG p pn ph lh lk lb G O X) = d at *
  generalize chkE p pn ph lh lk = ce at *
  generalize spG p pn ph lh lk lb G O X = R at *
  obtain ⟨A1, a1, B1, b1, C1', c1, eu, -⟩ := HG.out
  obtain ⟨A2, a2, B2, b2, C2', c2, ev, -⟩ := HO.out
  obtain ⟨A3, a3, B3, b3, C3', c3, ex, -⟩ := HX.out
  subst eu ev ex
  obtain ⟨h1, S1, T1, y1, M1⟩ := G
  obtain ⟨h2, S2, T2, y2, M2⟩ := O
  obtain ⟨h3, S3, T3, y3, M3⟩ := X
  obtain ⟨h5, S5, T5, y5, M5⟩ := R
  simp only at *
  clear sG sO sX TB HG HO HX
  go_enter Tryd.func15, Tryd.ntmps15
  go_upto_region 1 with fail
  refine gen_world fun w1 hw1 => ?_
  have HB1 := Lib.hid (show Below w.heap.size w w1 from by rw [hw1]; exact bl_alloc _ (bl_alloc _ (bl_alloc _ (bl_alloc _ (below_alloc _ _)))))
  have HPL := Lib.hid (show PlanCell w1 w.heap.size p pn ph from by rw [hw1]; exact ((((PlanCell.new _ _ _ rfl).alloc _).alloc _).alloc _).alloc _)
  have HLI := Lib.hid (show LieCell w1 (w.heap.size + 1) lh lk lb from by rw [hw1]; exact ((((LieCell.new _ _ _ (by simp)).below (below_alloc _ _)).below (below_alloc _ _)).below (below_alloc _ _)))
  have HK1 := Lib.hid (show GiftCell w1 (w.heap.size + 1 + 1) h1 (.slice A1 S1.length a1) (.slice B1 T1.length b1) y1 (.slice C1' M1.length c1) from by rw [hw1]; exact ((GiftCell.new _ _ _ _ _ (by simp)).alloc _).alloc _)
  have HK2 := Lib.hid (show GiftCell w1 (w.heap.size + 1 + 1 + 1) h2 (.slice A2 S2.length a2) (.slice B2 T2.length b2) y2 (.slice C2' M2.length c2) from by rw [hw1]; exact (GiftCell.new _ _ _ _ _ (by simp)).alloc _)
  have HK3 := Lib.hid (show GiftCell w1 (w.heap.size + 1 + 1 + 1 + 1) h3 (.slice A3 S3.length a3) (.slice B3 T3.length b3) y3 (.slice C3' M3.length c3) from by rw [hw1]; exact GiftCell.new _ _ _ _ _ (by simp))
  clear hw1
  have u10 := HK1.out.c0
  have u11 := HK1.out.c1
  have u12 := HK1.out.c2
  have u13 := HK1.out.c3
  have u14 := HK1.out.c4
  have u20 := HK2.out.c0
  have u21 := HK2.out.c1
  have u22 := HK2.out.c2
  have u23 := HK2.out.c3
  have u24 := HK2.out.c4
  have u30 := HK3.out.c0
  have u31 := HK3.out.c1
  have u32 := HK3.out.c2
  have u33 := HK3.out.c3
  have u34 := HK3.out.c4
  have p0' := HPL.out.c0
  have i0' := HLI.out.c0
  have p1' := HPL.out.c1
  have i1' := HLI.out.c1
  have p2' := HPL.out.c2
  have i2' := HLI.out.c2
  have lp := HPL.out.lt
  have ll := HLI.out.lt
  have lu1 := HK1.out.lt
  have lu2 := HK2.out.lt
  have lu3 := HK3.out.lt
  go_wp2_with fail
  refine (SP.out w1 HB1.out).mono ?_
  rintro e' w2 ⟨v4, rfl, hR4, hb⟩
  have HR4 := Lib.hid (show GiftR (fun _ => True) w2 v4 ⟨h5, S5, T5, y5, M5⟩ from hR4.mono (fun _ _ _ => trivial))
  obtain ⟨A4, a4, B4, b4, C4', c4, ev, -⟩ := hR4
  simp only at ev
  subst ev
  clear u10 u11 u12 u13 u14 u20 u21 u22 u23 u24 u30 u31 u32 u33 u34 p0' p1' p2' i0' i1' i2' lp ll lu1 lu2 lu3
  replace HPL := Lib.hid (HPL.out.below hb)
  replace HLI := Lib.hid (HLI.out.below hb)
  replace HK1 := Lib.hid (HK1.out.below hb)
  replace HK2 := Lib.hid (HK2.out.below hb)
  replace HK3 := Lib.hid (HK3.out.below hb)
  replace HB1 := Lib.hid (below_trans HB1.out hb)
  clear hb
  have u10 := HK1.out.c0
  have u11 := HK1.out.c1
  have u12 := HK1.out.c2
  have u13 := HK1.out.c3
  have u14 := HK1.out.c4
  have u20 := HK2.out.c0
  have u21 := HK2.out.c1
  have u22 := HK2.out.c2
  have u23 := HK2.out.c3
  have u24 := HK2.out.c4
  have u30 := HK3.out.c0
  have u31 := HK3.out.c1
  have u32 := HK3.out.c2
  have u33 := HK3.out.c3
  have u34 := HK3.out.c4
  have p0' := HPL.out.c0
  have i0' := HLI.out.c0
  have p1' := HPL.out.c1
  have i1' := HLI.out.c1
  have p2' := HPL.out.c2
  have i2' := HLI.out.c2
  have lp := HPL.out.lt
  have ll := HLI.out.lt
  have lu1 := HK1.out.lt
  have lu2 := HK2.out.lt
  have lu3 := HK3.out.lt
  go_upto_region 2 with fail
  refine gen_world fun w3 hw3 => ?_
  have hb : Below w2.heap.size w2 w3 := by rw [hw3]; exact below_alloc _ _
  have HK4 := Lib.hid (show GiftCell w3 w2.heap.size h5 (.slice A4 S5.length a4) (.slice B4 T5.length b4) y5 (.slice C4' M5.length c4) from by rw [hw3]; exact GiftCell.new _ _ _ _ _ rfl)
  clear hw3
  clear u10 u11 u12 u13 u14 u20 u21 u22 u23 u24 u30 u31 u32 u33 u34 p0' p1' p2' i0' i1' i2' lp ll lu1 lu2 lu3
  replace HPL := Lib.hid (HPL.out.below hb)
  replace HLI := Lib.hid (HLI.out.below hb)
  replace HK1 := Lib.hid (HK1.out.below hb)
  replace HK2 := Lib.hid (HK2.out.below hb)
  replace HK3 := Lib.hid (HK3.out.below hb)
  replace HR4 := Lib.hid (HR4.out.below hb)
  replace HB1 := Lib.hid (below_trans HB1.out hb)
  clear hb
  generalize w2.heap.size = x4 at *
  have u10 := HK1.out.c0
  have u11 := HK1.out.c1
  have u12 := HK1.out.c2
  have u13 := HK1.out.c3
  have u14 := HK1.out.c4
  have u20 := HK2.out.c0
  have u21 := HK2.out.c1
  have u22 := HK2.out.c2
  have u23 := HK2.out.c3
  have u24 := HK2.out.c4
  have u30 := HK3.out.c0
  have u31 := HK3.out.c1
  have u32 := HK3.out.c2
  have u33 := HK3.out.c3
  have u34 := HK3.out.c4
  have p0' := HPL.out.c0
  have i0' := HLI.out.c0
  have p1' := HPL.out.c1
  have i1' := HLI.out.c1
  have p2' := HPL.out.c2
  have i2' := HLI.out.c2
  have lp := HPL.out.lt
  have ll := HLI.out.lt
  have lu1 := HK1.out.lt
  have lu2 := HK2.out.lt
  have lu3 := HK3.out.lt
  go_wp2_with fail
  refine (SR.out w3 HB1.out).mono ?_
  rintro e' w4 ⟨v5, rfl, hR5, hb⟩
  have HR5 := Lib.hid (show GiftR (fun _ => True) w4 v5 ⟨h5, S5, T5, y5, M5⟩ from hR5.mono (fun _ _ _ => trivial))
  obtain ⟨A5, a5, B5, b5, C5', c5, ev, -⟩ := hR5
  simp only at ev
  subst ev
  clear u10 u11 u12 u13 u14 u20 u21 u22 u23 u24 u30 u31 u32 u33 u34 p0' p1' p2' i0' i1' i2' lp ll lu1 lu2 lu3
  replace HPL := Lib.hid (HPL.out.below hb)
  replace HLI := Lib.hid (HLI.out.below hb)
  replace HK1 := Lib.hid (HK1.out.below hb)
  replace HK2 := Lib.hid (HK2.out.below hb)
  replace HK3 := Lib.hid (HK3.out.below hb)
  replace HR4 := Lib.hid (HR4.out.below hb)
  replace HK4 := Lib.hid (HK4.out.below hb)
  replace HB1 := Lib.hid (below_trans HB1.out hb)
  clear hb
  have u10 := HK1.out.c0
  have u11 := HK1.out.c1
  have u12 := HK1.out.c2
  have u13 := HK1.out.c3
  have u14 := HK1.out.c4
  have u20 := HK2.out.c0
  have u21 := HK2.out.c1
  have u22 := HK2.out.c2
  have u23 := HK2.out.c3
  have u24 := HK2.out.c4
  have u30 := HK3.out.c0
  have u31 := HK3.out.c1
  have u32 := HK3.out.c2
  have u33 := HK3.out.c3
  have u34 := HK3.out.c4
  have p0' := HPL.out.c0
  have i0' := HLI.out.c0
  have p1' := HPL.out.c1
  have i1' := HLI.out.c1
  have p2' := HPL.out.c2
  have i2' := HLI.out.c2
  have lp := HPL.out.lt
  have ll := HLI.out.lt
  have lu1 := HK1.out.lt
  have lu2 := HK2.out.lt
  have lu3 := HK3.out.lt
  go_upto_region 3 with fail
  refine gen_world fun w0 hw0 => ?_
  have hb : Below w4.heap.size w4 w0 := by rw [hw0]; exact below_alloc _ _
  have HK5 := Lib.hid (show GiftCell w0 w4.heap.size h5 (.slice A5 S5.length a5) (.slice B5 T5.length b5) y5 (.slice C5' M5.length c5) from by rw [hw0]; exact GiftCell.new _ _ _ _ _ rfl)
  clear hw0
  clear u10 u11 u12 u13 u14 u20 u21 u22 u23 u24 u30 u31 u32 u33 u34 p0' p1' p2' i0' i1' i2' lp ll lu1 lu2 lu3
  replace HPL := Lib.hid (HPL.out.below hb)
  replace HLI := Lib.hid (HLI.out.below hb)
  replace HK1 := Lib.hid (HK1.out.below hb)
  replace HK2 := Lib.hid (HK2.out.below hb)
  replace HK3 := Lib.hid (HK3.out.below hb)
  replace HR4 := Lib.hid (HR4.out.below hb)
  replace HK4 := Lib.hid (HK4.out.below hb)
  replace HR5 := Lib.hid (HR5.out.below hb)
  replace HB1 := Lib.hid (below_trans HB1.out hb)
  clear hb
  generalize w4.heap.size = x5 at *
  have Q1 := C1
  clear C1
  have C1 := Lib.hid (fun (W : World) (hb : Below w0.heap.size w0 W) => Q1.out W _ _ (HR4.out.below hb) (HR5.out.below hb))
  have Q2 := Lib.hid (fun (W : World) (hb : Below w0.heap.size w0 W) => C2.out W (below_trans HB1.out hb))
  have Q3 := Lib.hid (fun (W : World) (hb : Below w0.heap.size w0 W) => C3.out W (below_trans HB1.out hb))
  have Q4 := Lib.hid (fun (W : World) (hb : Below w0.heap.size w0 W) => C4.out W (below_trans HB1.out hb))
  have Q5 := Lib.hid (fun (W : World) (hb : Below w0.heap.size w0 W) => C5.out W (below_trans HB1.out hb))
  have Q6 := Lib.hid (fun (W : World) (hb : Below w0.heap.size w0 W) => C6.out W _ (below_trans HB1.out hb) (HR5.out.below hb))
  have Q7 := Lib.hid (fun (W : World) (hb : Below w0.heap.size w0 W) => C7.out W _ (below_trans HB1.out hb) (HR5.out.below hb))
  have Q8 := Lib.hid (fun (W : World) (hb : Below w0.heap.size w0 W) => C8.out W (below_trans HB1.out hb))
  have Q9 := Lib.hid (fun (W : World) (hb : Below w0.heap.size w0 W) => C9.out W (below_trans HB1.out hb))
  clear C2 C3 C4 C5 C6 C7 C8 C9 SP SR Q1
  have C2 := Q2
  clear Q2
  have C3 := Q3
  clear Q3
  have C4 := Q4
  clear Q4
  have C5 := Q5
  clear Q5
  have C6 := Q6
  clear Q6
  have C7 := Q7
  clear Q7
  have C8 := Q8
  clear Q8
  have C9 := Q9
  clear Q9
  have HLT := Lib.hid (show w.heap.size ≤ w0.heap.size from HB1.out.size)
  generalize w.heap.size + 1 + 1 + 1 + 1 = x3 at *
  generalize w.heap.size + 1 + 1 + 1 = x2 at *
  generalize w.heap.size + 1 + 1 = x1 at *
  generalize w.heap.size + 1 = lx at *
  generalize hpx : w.heap.size = px at *
  generalize S1.length = l1 at *
  generalize T1.length = m1 at *
  generalize M1.length = n1 at *
  generalize S2.length = l2 at *
  generalize T2.length = m2 at *
  generalize M2.length = n2 at *
  generalize S3.length = l3 at *
  generalize T3.length = m3 at *
  generalize M3.length = n3 at *
  generalize S5.length = l5 at *
  generalize T5.length = m5 at *
  generalize M5.length = n5 at *
  refine wp_region_J2 (GI (agrPL p pn ph lh lk lb E ce ok q d e h1 h2 h3 h5 h5 y1 y2 y3 y5 y5 A1 B1 C1' A2 B2 C2' A3 B3 C3' A4 B4 C4' A5 B5 C5' l1 m1 n1 a1 b1 c1 l2 m2 n2 a2 b2 c2 l3 m3 n3 a3 b3 c3 l5 m5 n5 a4 b4 c4 l5 m5 n5 a5 b5 c5) (GrS w0)) (by kernel_rfl) (by kernel_rfl) (by kernel_rfl) ?_ ?_ ?_
  case refine_1 => exact fun V => GI.start (GrS.start _ _ _)
  case refine_2 =>
    refine JSteps.cons (fun V Ld a W hLi hpre hR hI K hK => ?_) ?_
    · have o13 := (hR.old 13 (by kernel_rfl)).trans (show _ = Value.int .i64 E from rfl)
      exact G_move rfl (.tmp 13) rfl o13 (hK _ _ (hI.put0 0 rfl rfl hI.st.up))
    refine JSteps.cons (fun V Ld a W hLi hpre hR hI K hK => ?_) ?_
    · have o16 := (hR.old 16 (by kernel_rfl)).trans (show _ = Value.int .i64 E from rfl)
      exact G_move rfl (.tmp 16) rfl o16 (hK _ _ (hI.put0 1 rfl rfl hI.st.up))
    refine JSteps.cons (fun V Ld a W hLi hpre hR hI K hK => ?_) ?_
    · have p0 : Ld 0 = true := hpre 0 (List.mem_of_elem_eq_true (by kernel_rfl))
      have f0 := (hR.ev 0 rfl rfl p0).trans (hI.val 0 _ rfl p0)
      have p1 : Ld 1 = true := hpre 1 (List.mem_of_elem_eq_true (by kernel_rfl))
      have f1 := (hR.ev 1 rfl rfl p1).trans (hI.val 1 _ rfl p1)
      exact J_binOp rfl .eql _ (.tmp 37) (.tmp 38) _ rfl (by rw [f0, f1]; go_simp) (hK _ _ (hI.put0 2 rfl rfl hI.st.up))
    refine JSteps.cons (fun V Ld a W hLi hpre hR hI K hK => ?_) ?_
    · have p2 : Ld 2 = true := hpre 2 (List.mem_of_elem_eq_true (by kernel_rfl))
      have f2 := (hR.ev 2 rfl rfl p2).trans (hI.val 2 _ rfl p2)
      exact G_move rfl (.tmp 39) rfl f2 (hK _ _ (hI.put0 3 rfl rfl hI.st.up))
    refine JSteps.cons (fun V Ld a W hLi hpre hR hI K hK => ?_) ?_
    · have pg3 : Ld 3 = true := hpre 3 (List.mem_of_elem_eq_true (by kernel_rfl))
      refine G_g (hR.want' 3 rfl rfl rfl pg3 (hI.val 3 _ rfl pg3)) ?_
      have o12 := (hR.old 12 (by kernel_rfl)).trans (show _ = Value.bool ok from rfl)
      exact G_move rfl (.tmp 12) rfl o12 (hK _ _ (hI.put0 4 rfl rfl hI.st.up))
    refine JSteps.cons (fun V Ld a W hLi hpre hR hI K hK => ?_) ?_
    · have pg3 : Ld 3 = true := hpre 3 (List.mem_of_elem_eq_true (by kernel_rfl))
      refine G_g (hR.want' 3 rfl rfl rfl pg3 (hI.val 3 _ rfl pg3)) ?_
      have o15 := (hR.old 15 (by kernel_rfl)).trans (show _ = Value.bool ok from rfl)
      exact G_move rfl (.tmp 15) rfl o15 (hK _ _ (hI.put0 5 rfl rfl hI.st.up))
    refine JSteps.cons (fun V Ld a W hLi hpre hR hI K hK => ?_) ?_
    · have pg3 : Ld 3 = true := hpre 3 (List.mem_of_elem_eq_true (by kernel_rfl))
      refine G_g (hR.want' 3 rfl rfl rfl pg3 (hI.val 3 _ rfl pg3)) ?_
      have p4 : Ld 4 = true := hpre 4 (List.mem_of_elem_eq_true (by kernel_rfl))
      have f4 := (hR.ev 4 rfl rfl p4).trans (hI.val 4 _ rfl p4)
      have p5 : Ld 5 = true := hpre 5 (List.mem_of_elem_eq_true (by kernel_rfl))
      have f5 := (hR.ev 5 rfl rfl p5).trans (hI.val 5 _ rfl p5)
      exact J_binOp rfl .eql _ (.tmp 41) (.tmp 42) _ rfl (by rw [f4, f5]; go_simp) (hK _ _ (hI.put0 6 rfl rfl hI.st.up))
    refine JSteps.cons (fun V Ld a W hLi hpre hR hI K hK => ?_) ?_
    · have p3 : Ld 3 = true := hpre 3 (List.mem_of_elem_eq_true (by kernel_rfl))
      have f3 := (hR.ev 3 rfl rfl p3).trans (hI.val 3 _ rfl p3)
      have p6 : Ld 6 = true := hpre 6 (List.mem_of_elem_eq_true (by kernel_rfl))
      have f6 := (hR.ev 6 rfl rfl p6).trans (hI.val 6 _ rfl p6)
      exact G_pick rfl (.tmp 40) (.tmp 43) (.const (.bool false)) rfl f3 (show _ = _ from f6) (hK _ _ (hI.put0 7 rfl rfl hI.st.up))
    refine JSteps.cons (fun V Ld a W hLi hpre hR hI K hK => ?_) ?_
    · have p7 : Ld 7 = true := hpre 7 (List.mem_of_elem_eq_true (by kernel_rfl))
      have f7 := (hR.ev 7 rfl rfl p7).trans (hI.val 7 _ rfl p7)
      exact G_move rfl (.tmp 44) rfl f7 (hK _ _ (hI.put0 8 rfl rfl hI.st.up))
    refine JSteps.cons (fun V Ld a W hLi hpre hR hI K hK => ?_) ?_
    · have pg8 : Ld 8 = true := hpre 8 (List.mem_of_elem_eq_true (by kernel_rfl))
      refine G_g (hR.want' 8 rfl rfl rfl pg8 (hI.val 8 _ rfl pg8)) ?_
      have o11 := (hR.old 11 (by kernel_rfl)).trans (show _ = Value.pointer (some ⟨x4, 0, none⟩) from rfl)
      exact J_load rfl _ (.tmp 11) rfl (by rw [o11]; exact ld_gift (HK4.out.below hI.st.bl)) (hK _ _ (hI.put0 9 rfl rfl hI.st.up))
    refine JSteps.cons (fun V Ld a W hLi hpre hR hI K hK => ?_) ?_
    · have pg8 : Ld 8 = true := hpre 8 (List.mem_of_elem_eq_true (by kernel_rfl))
      refine G_g (hR.want' 8 rfl rfl rfl pg8 (hI.val 8 _ rfl pg8)) ?_
      have o14 := (hR.old 14 (by kernel_rfl)).trans (show _ = Value.pointer (some ⟨x5, 0, none⟩) from rfl)
      exact J_load rfl _ (.tmp 14) rfl (by rw [o14]; exact ld_gift (HK5.out.below hI.st.bl)) (hK _ _ (hI.put0 10 rfl rfl hI.st.up))
    refine JSteps.cons (fun V Ld a W hLi hpre hR hI K hK => ?_) ?_
    · have pg8 : Ld 8 = true := hpre 8 (List.mem_of_elem_eq_true (by kernel_rfl))
      refine G_g (hR.want' 8 rfl rfl rfl pg8 (hI.val 8 _ rfl pg8)) ?_
      have p9 : Ld 9 = true := hpre 9 (List.mem_of_elem_eq_true (by kernel_rfl))
      have f9 := (hR.ev 9 rfl rfl p9).trans (hI.val 9 _ rfl p9)
      have p10 : Ld 10 = true := hpre 10 (List.mem_of_elem_eq_true (by kernel_rfl))
      have f10 := (hR.ev 10 rfl rfl p10).trans (hI.val 10 _ rfl p10)
      refine J_call rfl _ _ _ rfl enter_sg34 (by simp only [List.map_toArray, List.map_cons, List.map_nil, f9, f10]) (C1.out W hI.st.bl) ?_
      rintro e w' ⟨rfl, hb⟩
      exact ⟨_, rfl, hK _ _ (hI.put (R := Bl) hb 11 rfl rfl (hI.st.to hb))⟩
    refine JSteps.cons (fun V Ld a W hLi hpre hR hI K hK => ?_) ?_
    · have p8 : Ld 8 = true := hpre 8 (List.mem_of_elem_eq_true (by kernel_rfl))
      have f8 := (hR.ev 8 rfl rfl p8).trans (hI.val 8 _ rfl p8)
      have p11 : Ld 11 = true := hpre 11 (List.mem_of_elem_eq_true (by kernel_rfl))
      have f11 := (hR.ev 11 rfl rfl p11).trans (hI.val 11 _ rfl p11)
      exact G_pick rfl (.tmp 45) (.tmp 48) (.const (.bool false)) rfl f8 (show _ = _ from f11) (hK _ _ (hI.put0 12 rfl rfl hI.st.up))
    refine JSteps.cons (fun V Ld a W hLi hpre hR hI K hK => ?_) ?_
    · have p12 : Ld 12 = true := hpre 12 (List.mem_of_elem_eq_true (by kernel_rfl))
      have f12 := (hR.ev 12 rfl rfl p12).trans (hI.val 12 _ rfl p12)
      exact G_move rfl (.tmp 49) rfl f12 (hK _ _ (hI.put0 13 rfl rfl hI.st.up))
    refine JSteps.cons (fun V Ld a W hLi hpre hR hI K hK => ?_) ?_
    · have pg13 : Ld 13 = true := hpre 13 (List.mem_of_elem_eq_true (by kernel_rfl))
      refine G_g (hR.want' 13 rfl rfl rfl pg13 (hI.val 13 _ rfl pg13)) ?_
      have o5 := (hR.old 5 (by kernel_rfl)).trans (show _ = Value.pointer (some ⟨px, 0, none⟩) from rfl)
      exact J_load rfl _ (.tmp 5) rfl (by rw [o5]; exact ld_plan (HPL.out.below hI.st.bl)) (hK _ _ (hI.put0 14 rfl rfl hI.st.up))
    refine JSteps.cons (fun V Ld a W hLi hpre hR hI K hK => ?_) ?_
    · have pg13 : Ld 13 = true := hpre 13 (List.mem_of_elem_eq_true (by kernel_rfl))
      refine G_g (hR.want' 13 rfl rfl rfl pg13 (hI.val 13 _ rfl pg13)) ?_
      have o6 := (hR.old 6 (by kernel_rfl)).trans (show _ = Value.pointer (some ⟨lx, 0, none⟩) from rfl)
      exact J_load rfl _ (.tmp 6) rfl (by rw [o6]; exact ld_lie (HLI.out.below hI.st.bl)) (hK _ _ (hI.put0 15 rfl rfl hI.st.up))
    refine JSteps.cons (fun V Ld a W hLi hpre hR hI K hK => ?_) ?_
    · have pg13 : Ld 13 = true := hpre 13 (List.mem_of_elem_eq_true (by kernel_rfl))
      refine G_g (hR.want' 13 rfl rfl rfl pg13 (hI.val 13 _ rfl pg13)) ?_
      have p14 : Ld 14 = true := hpre 14 (List.mem_of_elem_eq_true (by kernel_rfl))
      have f14 := (hR.ev 14 rfl rfl p14).trans (hI.val 14 _ rfl p14)
      have p15 : Ld 15 = true := hpre 15 (List.mem_of_elem_eq_true (by kernel_rfl))
      have f15 := (hR.ev 15 rfl rfl p15).trans (hI.val 15 _ rfl p15)
      refine J_call rfl _ _ _ rfl enter_chk (by simp only [List.map_toArray, List.map_cons, List.map_nil, f14, f15]) (C2.out W hI.st.bl) ?_
      rintro e w' ⟨rfl, hb⟩
      exact ⟨_, rfl, hK _ _ (hI.put (R := Bl) hb 16 rfl rfl (hI.st.to hb))⟩
    refine JSteps.cons (fun V Ld a W hLi hpre hR hI K hK => ?_) ?_
    · have pg13 : Ld 13 = true := hpre 13 (List.mem_of_elem_eq_true (by kernel_rfl))
      refine G_g (hR.want' 13 rfl rfl rfl pg13 (hI.val 13 _ rfl pg13)) ?_
      have o5 := (hR.old 5 (by kernel_rfl)).trans (show _ = Value.pointer (some ⟨px, 0, none⟩) from rfl)
      exact J_load rfl _ (.tmp 5) rfl (by rw [o5]; exact ld_plan (HPL.out.below hI.st.bl)) (hK _ _ (hI.put0 17 rfl rfl hI.st.up))
    refine JSteps.cons (fun V Ld a W hLi hpre hR hI K hK => ?_) ?_
    · have pg13 : Ld 13 = true := hpre 13 (List.mem_of_elem_eq_true (by kernel_rfl))
      refine G_g (hR.want' 13 rfl rfl rfl pg13 (hI.val 13 _ rfl pg13)) ?_
      have o6 := (hR.old 6 (by kernel_rfl)).trans (show _ = Value.pointer (some ⟨lx, 0, none⟩) from rfl)
      exact J_load rfl _ (.tmp 6) rfl (by rw [o6]; exact ld_lie (HLI.out.below hI.st.bl)) (hK _ _ (hI.put0 18 rfl rfl hI.st.up))
    refine JSteps.cons (fun V Ld a W hLi hpre hR hI K hK => ?_) ?_
    · have pg13 : Ld 13 = true := hpre 13 (List.mem_of_elem_eq_true (by kernel_rfl))
      refine G_g (hR.want' 13 rfl rfl rfl pg13 (hI.val 13 _ rfl pg13)) ?_
      have p17 : Ld 17 = true := hpre 17 (List.mem_of_elem_eq_true (by kernel_rfl))
      have f17 := (hR.ev 17 rfl rfl p17).trans (hI.val 17 _ rfl p17)
      have p18 : Ld 18 = true := hpre 18 (List.mem_of_elem_eq_true (by kernel_rfl))
      have f18 := (hR.ev 18 rfl rfl p18).trans (hI.val 18 _ rfl p18)
      refine J_call rfl _ _ _ rfl enter_rchk (by simp only [List.map_toArray, List.map_cons, List.map_nil, f17, f18]) (C3.out W hI.st.bl) ?_
      rintro e w' ⟨rfl, hb⟩
      exact ⟨_, rfl, hK _ _ (hI.put (R := Bl) hb 19 rfl rfl (hI.st.to hb))⟩
    refine JSteps.cons (fun V Ld a W hLi hpre hR hI K hK => ?_) ?_
    · have pg13 : Ld 13 = true := hpre 13 (List.mem_of_elem_eq_true (by kernel_rfl))
      refine G_g (hR.want' 13 rfl rfl rfl pg13 (hI.val 13 _ rfl pg13)) ?_
      have p16 : Ld 16 = true := hpre 16 (List.mem_of_elem_eq_true (by kernel_rfl))
      have f16 := (hR.ev 16 rfl rfl p16).trans (hI.val 16 _ rfl p16)
      have p19 : Ld 19 = true := hpre 19 (List.mem_of_elem_eq_true (by kernel_rfl))
      have f19 := (hR.ev 19 rfl rfl p19).trans (hI.val 19 _ rfl p19)
      exact J_binOp rfl .eql _ (.tmp 53) (.tmp 56) _ rfl (by rw [f16, f19]; go_simp) (hK _ _ (hI.put0 20 rfl rfl hI.st.up))
    refine JSteps.cons (fun V Ld a W hLi hpre hR hI K hK => ?_) ?_
    · have p13 : Ld 13 = true := hpre 13 (List.mem_of_elem_eq_true (by kernel_rfl))
      have f13 := (hR.ev 13 rfl rfl p13).trans (hI.val 13 _ rfl p13)
      have p20 : Ld 20 = true := hpre 20 (List.mem_of_elem_eq_true (by kernel_rfl))
      have f20 := (hR.ev 20 rfl rfl p20).trans (hI.val 20 _ rfl p20)
      exact G_pick rfl (.tmp 50) (.tmp 57) (.const (.bool false)) rfl f13 (show _ = _ from f20) (hK _ _ (hI.put0 21 rfl rfl hI.st.up))
    refine JSteps.cons (fun V Ld a W hLi hpre hR hI K hK => ?_) ?_
    · have p21 : Ld 21 = true := hpre 21 (List.mem_of_elem_eq_true (by kernel_rfl))
      have f21 := (hR.ev 21 rfl rfl p21).trans (hI.val 21 _ rfl p21)
      exact G_move rfl (.tmp 58) rfl f21 (hK _ _ (hI.put0 22 rfl rfl hI.st.up))
    refine JSteps.cons (fun V Ld a W hLi hpre hR hI K hK => ?_) ?_
    · have pg22 : Ld 22 = true := hpre 22 (List.mem_of_elem_eq_true (by kernel_rfl))
      refine G_g (hR.want' 22 rfl rfl rfl pg22 (hI.val 22 _ rfl pg22)) ?_
      have o7 := (hR.old 7 (by kernel_rfl)).trans (show _ = Value.pointer (some ⟨x1, 0, none⟩) from rfl)
      exact J_load rfl _ (.tmp 7) rfl (by rw [o7]; exact ld_gift (HK1.out.below hI.st.bl)) (hK _ _ (hI.put0 23 rfl rfl hI.st.up))
    refine JSteps.cons (fun V Ld a W hLi hpre hR hI K hK => ?_) ?_
    · have pg22 : Ld 22 = true := hpre 22 (List.mem_of_elem_eq_true (by kernel_rfl))
      refine G_g (hR.want' 22 rfl rfl rfl pg22 (hI.val 22 _ rfl pg22)) ?_
      have o8 := (hR.old 8 (by kernel_rfl)).trans (show _ = Value.pointer (some ⟨x2, 0, none⟩) from rfl)
      exact J_load rfl _ (.tmp 8) rfl (by rw [o8]; exact ld_gift (HK2.out.below hI.st.bl)) (hK _ _ (hI.put0 24 rfl rfl hI.st.up))
    refine JSteps.cons (fun V Ld a W hLi hpre hR hI K hK => ?_) ?_
    · have pg22 : Ld 22 = true := hpre 22 (List.mem_of_elem_eq_true (by kernel_rfl))
      refine G_g (hR.want' 22 rfl rfl rfl pg22 (hI.val 22 _ rfl pg22)) ?_
      have p23 : Ld 23 = true := hpre 23 (List.mem_of_elem_eq_true (by kernel_rfl))
      have f23 := (hR.ev 23 rfl rfl p23).trans (hI.val 23 _ rfl p23)
      have p24 : Ld 24 = true := hpre 24 (List.mem_of_elem_eq_true (by kernel_rfl))
      have f24 := (hR.ev 24 rfl rfl p24).trans (hI.val 24 _ rfl p24)
      refine J_call rfl _ _ _ rfl enter_same (by simp only [List.map_toArray, List.map_cons, List.map_nil, f23, f24]) (C4.out W hI.st.bl) ?_
      rintro e w' ⟨rfl, hb⟩
      exact ⟨_, rfl, hK _ _ (hI.put (R := Bl) hb 25 rfl rfl (hI.st.to hb))⟩
    refine JSteps.cons (fun V Ld a W hLi hpre hR hI K hK => ?_) ?_
    · have pg22 : Ld 22 = true := hpre 22 (List.mem_of_elem_eq_true (by kernel_rfl))
      refine G_g (hR.want' 22 rfl rfl rfl pg22 (hI.val 22 _ rfl pg22)) ?_
      have o7 := (hR.old 7 (by kernel_rfl)).trans (show _ = Value.pointer (some ⟨x1, 0, none⟩) from rfl)
      exact J_load rfl _ (.tmp 7) rfl (by rw [o7]; exact ld_gift (HK1.out.below hI.st.bl)) (hK _ _ (hI.put0 26 rfl rfl hI.st.up))
    refine JSteps.cons (fun V Ld a W hLi hpre hR hI K hK => ?_) ?_
    · have pg22 : Ld 22 = true := hpre 22 (List.mem_of_elem_eq_true (by kernel_rfl))
      refine G_g (hR.want' 22 rfl rfl rfl pg22 (hI.val 22 _ rfl pg22)) ?_
      have o8 := (hR.old 8 (by kernel_rfl)).trans (show _ = Value.pointer (some ⟨x2, 0, none⟩) from rfl)
      exact J_load rfl _ (.tmp 8) rfl (by rw [o8]; exact ld_gift (HK2.out.below hI.st.bl)) (hK _ _ (hI.put0 27 rfl rfl hI.st.up))
    refine JSteps.cons (fun V Ld a W hLi hpre hR hI K hK => ?_) ?_
    · have pg22 : Ld 22 = true := hpre 22 (List.mem_of_elem_eq_true (by kernel_rfl))
      refine G_g (hR.want' 22 rfl rfl rfl pg22 (hI.val 22 _ rfl pg22)) ?_
      have p26 : Ld 26 = true := hpre 26 (List.mem_of_elem_eq_true (by kernel_rfl))
      have f26 := (hR.ev 26 rfl rfl p26).trans (hI.val 26 _ rfl p26)
      have p27 : Ld 27 = true := hpre 27 (List.mem_of_elem_eq_true (by kernel_rfl))
      have f27 := (hR.ev 27 rfl rfl p27).trans (hI.val 27 _ rfl p27)
      refine J_call rfl _ _ _ rfl enter_rsame (by simp only [List.map_toArray, List.map_cons, List.map_nil, f26, f27]) (C5.out W hI.st.bl) ?_
      rintro e w' ⟨rfl, hb⟩
      exact ⟨_, rfl, hK _ _ (hI.put (R := Bl) hb 28 rfl rfl (hI.st.to hb))⟩
    refine JSteps.cons (fun V Ld a W hLi hpre hR hI K hK => ?_) ?_
    · have pg22 : Ld 22 = true := hpre 22 (List.mem_of_elem_eq_true (by kernel_rfl))
      refine G_g (hR.want' 22 rfl rfl rfl pg22 (hI.val 22 _ rfl pg22)) ?_
      have p25 : Ld 25 = true := hpre 25 (List.mem_of_elem_eq_true (by kernel_rfl))
      have f25 := (hR.ev 25 rfl rfl p25).trans (hI.val 25 _ rfl p25)
      have p28 : Ld 28 = true := hpre 28 (List.mem_of_elem_eq_true (by kernel_rfl))
      have f28 := (hR.ev 28 rfl rfl p28).trans (hI.val 28 _ rfl p28)
      exact J_binOp rfl .eql _ (.tmp 62) (.tmp 65) _ rfl (by rw [f25, f28]; go_simp) (hK _ _ (hI.put0 29 rfl rfl hI.st.up))
    refine JSteps.cons (fun V Ld a W hLi hpre hR hI K hK => ?_) ?_
    · have p22 : Ld 22 = true := hpre 22 (List.mem_of_elem_eq_true (by kernel_rfl))
      have f22 := (hR.ev 22 rfl rfl p22).trans (hI.val 22 _ rfl p22)
      have p29 : Ld 29 = true := hpre 29 (List.mem_of_elem_eq_true (by kernel_rfl))
      have f29 := (hR.ev 29 rfl rfl p29).trans (hI.val 29 _ rfl p29)
      exact G_pick rfl (.tmp 59) (.tmp 66) (.const (.bool false)) rfl f22 (show _ = _ from f29) (hK _ _ (hI.put0 30 rfl rfl hI.st.up))
    refine JSteps.cons (fun V Ld a W hLi hpre hR hI K hK => ?_) ?_
    · have p30 : Ld 30 = true := hpre 30 (List.mem_of_elem_eq_true (by kernel_rfl))
      have f30 := (hR.ev 30 rfl rfl p30).trans (hI.val 30 _ rfl p30)
      exact G_move rfl (.tmp 67) rfl f30 (hK _ _ (hI.put0 31 rfl rfl hI.st.up))
    refine JSteps.cons (fun V Ld a W hLi hpre hR hI K hK => ?_) ?_
    · have pg31 : Ld 31 = true := hpre 31 (List.mem_of_elem_eq_true (by kernel_rfl))
      refine G_g (hR.want' 31 rfl rfl rfl pg31 (hI.val 31 _ rfl pg31)) ?_
      have o7 := (hR.old 7 (by kernel_rfl)).trans (show _ = Value.pointer (some ⟨x1, 0, none⟩) from rfl)
      exact J_load rfl _ (.tmp 7) rfl (by rw [o7]; exact ld_gift (HK1.out.below hI.st.bl)) (hK _ _ (hI.put0 32 rfl rfl hI.st.up))
    refine JSteps.cons (fun V Ld a W hLi hpre hR hI K hK => ?_) ?_
    · have pg31 : Ld 31 = true := hpre 31 (List.mem_of_elem_eq_true (by kernel_rfl))
      refine G_g (hR.want' 31 rfl rfl rfl pg31 (hI.val 31 _ rfl pg31)) ?_
      have o14 := (hR.old 14 (by kernel_rfl)).trans (show _ = Value.pointer (some ⟨x5, 0, none⟩) from rfl)
      exact J_load rfl _ (.tmp 14) rfl (by rw [o14]; exact ld_gift (HK5.out.below hI.st.bl)) (hK _ _ (hI.put0 33 rfl rfl hI.st.up))
    refine JSteps.cons (fun V Ld a W hLi hpre hR hI K hK => ?_) ?_
    · have pg31 : Ld 31 = true := hpre 31 (List.mem_of_elem_eq_true (by kernel_rfl))
      refine G_g (hR.want' 31 rfl rfl rfl pg31 (hI.val 31 _ rfl pg31)) ?_
      have p32 : Ld 32 = true := hpre 32 (List.mem_of_elem_eq_true (by kernel_rfl))
      have f32 := (hR.ev 32 rfl rfl p32).trans (hI.val 32 _ rfl p32)
      have p33 : Ld 33 = true := hpre 33 (List.mem_of_elem_eq_true (by kernel_rfl))
      have f33 := (hR.ev 33 rfl rfl p33).trans (hI.val 33 _ rfl p33)
      refine J_call rfl _ _ _ rfl enter_dif (by simp only [List.map_toArray, List.map_cons, List.map_nil, f32, f33]) (C6.out W hI.st.bl) ?_
      rintro e w' ⟨rfl, hb⟩
      exact ⟨_, rfl, hK _ _ (hI.put (R := Bl) hb 34 rfl rfl (hI.st.to hb))⟩
    refine JSteps.cons (fun V Ld a W hLi hpre hR hI K hK => ?_) ?_
    · have pg31 : Ld 31 = true := hpre 31 (List.mem_of_elem_eq_true (by kernel_rfl))
      refine G_g (hR.want' 31 rfl rfl rfl pg31 (hI.val 31 _ rfl pg31)) ?_
      have o7 := (hR.old 7 (by kernel_rfl)).trans (show _ = Value.pointer (some ⟨x1, 0, none⟩) from rfl)
      exact J_load rfl _ (.tmp 7) rfl (by rw [o7]; exact ld_gift (HK1.out.below hI.st.bl)) (hK _ _ (hI.put0 35 rfl rfl hI.st.up))
    refine JSteps.cons (fun V Ld a W hLi hpre hR hI K hK => ?_) ?_
    · have pg31 : Ld 31 = true := hpre 31 (List.mem_of_elem_eq_true (by kernel_rfl))
      refine G_g (hR.want' 31 rfl rfl rfl pg31 (hI.val 31 _ rfl pg31)) ?_
      have o14 := (hR.old 14 (by kernel_rfl)).trans (show _ = Value.pointer (some ⟨x5, 0, none⟩) from rfl)
      exact J_load rfl _ (.tmp 14) rfl (by rw [o14]; exact ld_gift (HK5.out.below hI.st.bl)) (hK _ _ (hI.put0 36 rfl rfl hI.st.up))
    refine JSteps.cons (fun V Ld a W hLi hpre hR hI K hK => ?_) ?_
    · have pg31 : Ld 31 = true := hpre 31 (List.mem_of_elem_eq_true (by kernel_rfl))
      refine G_g (hR.want' 31 rfl rfl rfl pg31 (hI.val 31 _ rfl pg31)) ?_
      have p35 : Ld 35 = true := hpre 35 (List.mem_of_elem_eq_true (by kernel_rfl))
      have f35 := (hR.ev 35 rfl rfl p35).trans (hI.val 35 _ rfl p35)
      have p36 : Ld 36 = true := hpre 36 (List.mem_of_elem_eq_true (by kernel_rfl))
      have f36 := (hR.ev 36 rfl rfl p36).trans (hI.val 36 _ rfl p36)
      refine J_call rfl _ _ _ rfl enter_rdif (by simp only [List.map_toArray, List.map_cons, List.map_nil, f35, f36]) (C7.out W hI.st.bl) ?_
      rintro e w' ⟨rfl, hb⟩
      exact ⟨_, rfl, hK _ _ (hI.put (R := Bl) hb 37 rfl rfl (hI.st.to hb))⟩
    refine JSteps.cons (fun V Ld a W hLi hpre hR hI K hK => ?_) ?_
    · have pg31 : Ld 31 = true := hpre 31 (List.mem_of_elem_eq_true (by kernel_rfl))
      refine G_g (hR.want' 31 rfl rfl rfl pg31 (hI.val 31 _ rfl pg31)) ?_
      have p34 : Ld 34 = true := hpre 34 (List.mem_of_elem_eq_true (by kernel_rfl))
      have f34 := (hR.ev 34 rfl rfl p34).trans (hI.val 34 _ rfl p34)
      have p37 : Ld 37 = true := hpre 37 (List.mem_of_elem_eq_true (by kernel_rfl))
      have f37 := (hR.ev 37 rfl rfl p37).trans (hI.val 37 _ rfl p37)
      exact J_binOp rfl .eql _ (.tmp 71) (.tmp 74) _ rfl (by rw [f34, f37]; go_simp) (hK _ _ (hI.put0 38 rfl rfl hI.st.up))
    refine JSteps.cons (fun V Ld a W hLi hpre hR hI K hK => ?_) ?_
    · have p31 : Ld 31 = true := hpre 31 (List.mem_of_elem_eq_true (by kernel_rfl))
      have f31 := (hR.ev 31 rfl rfl p31).trans (hI.val 31 _ rfl p31)
      have p38 : Ld 38 = true := hpre 38 (List.mem_of_elem_eq_true (by kernel_rfl))
      have f38 := (hR.ev 38 rfl rfl p38).trans (hI.val 38 _ rfl p38)
      exact G_pick rfl (.tmp 68) (.tmp 75) (.const (.bool false)) rfl f31 (show _ = _ from f38) (hK _ _ (hI.put0 39 rfl rfl hI.st.up))
    refine JSteps.cons (fun V Ld a W hLi hpre hR hI K hK => ?_) ?_
    · have p39 : Ld 39 = true := hpre 39 (List.mem_of_elem_eq_true (by kernel_rfl))
      have f39 := (hR.ev 39 rfl rfl p39).trans (hI.val 39 _ rfl p39)
      exact G_move rfl (.tmp 76) rfl f39 (hK _ _ (hI.put0 40 rfl rfl hI.st.up))
    refine JSteps.cons (fun V Ld a W hLi hpre hR hI K hK => ?_) ?_
    · have pg40 : Ld 40 = true := hpre 40 (List.mem_of_elem_eq_true (by kernel_rfl))
      refine G_g (hR.want' 40 rfl rfl rfl pg40 (hI.val 40 _ rfl pg40)) ?_
      have o7 := (hR.old 7 (by kernel_rfl)).trans (show _ = Value.pointer (some ⟨x1, 0, none⟩) from rfl)
      exact J_load rfl _ (.tmp 7) rfl (by rw [o7]; exact ld_gift (HK1.out.below hI.st.bl)) (hK _ _ (hI.put0 41 rfl rfl hI.st.up))
    refine JSteps.cons (fun V Ld a W hLi hpre hR hI K hK => ?_) ?_
    · have pg40 : Ld 40 = true := hpre 40 (List.mem_of_elem_eq_true (by kernel_rfl))
      refine G_g (hR.want' 40 rfl rfl rfl pg40 (hI.val 40 _ rfl pg40)) ?_
      have o9 := (hR.old 9 (by kernel_rfl)).trans (show _ = Value.pointer (some ⟨x3, 0, none⟩) from rfl)
      exact J_load rfl _ (.tmp 9) rfl (by rw [o9]; exact ld_gift (HK3.out.below hI.st.bl)) (hK _ _ (hI.put0 42 rfl rfl hI.st.up))
    refine JSteps.cons (fun V Ld a W hLi hpre hR hI K hK => ?_) ?_
    · have pg40 : Ld 40 = true := hpre 40 (List.mem_of_elem_eq_true (by kernel_rfl))
      refine G_g (hR.want' 40 rfl rfl rfl pg40 (hI.val 40 _ rfl pg40)) ?_
      have p41 : Ld 41 = true := hpre 41 (List.mem_of_elem_eq_true (by kernel_rfl))
      have f41 := (hR.ev 41 rfl rfl p41).trans (hI.val 41 _ rfl p41)
      have p42 : Ld 42 = true := hpre 42 (List.mem_of_elem_eq_true (by kernel_rfl))
      have f42 := (hR.ev 42 rfl rfl p42).trans (hI.val 42 _ rfl p42)
      refine J_call rfl _ _ _ rfl enter_dif (by simp only [List.map_toArray, List.map_cons, List.map_nil, f41, f42]) (C8.out W hI.st.bl) ?_
      rintro e w' ⟨rfl, hb⟩
      exact ⟨_, rfl, hK _ _ (hI.put (R := Bl) hb 43 rfl rfl (hI.st.to hb))⟩
    refine JSteps.cons (fun V Ld a W hLi hpre hR hI K hK => ?_) ?_
    · have pg40 : Ld 40 = true := hpre 40 (List.mem_of_elem_eq_true (by kernel_rfl))
      refine G_g (hR.want' 40 rfl rfl rfl pg40 (hI.val 40 _ rfl pg40)) ?_
      have o7 := (hR.old 7 (by kernel_rfl)).trans (show _ = Value.pointer (some ⟨x1, 0, none⟩) from rfl)
      exact J_load rfl _ (.tmp 7) rfl (by rw [o7]; exact ld_gift (HK1.out.below hI.st.bl)) (hK _ _ (hI.put0 44 rfl rfl hI.st.up))
    refine JSteps.cons (fun V Ld a W hLi hpre hR hI K hK => ?_) ?_
    · have pg40 : Ld 40 = true := hpre 40 (List.mem_of_elem_eq_true (by kernel_rfl))
      refine G_g (hR.want' 40 rfl rfl rfl pg40 (hI.val 40 _ rfl pg40)) ?_
      have o9 := (hR.old 9 (by kernel_rfl)).trans (show _ = Value.pointer (some ⟨x3, 0, none⟩) from rfl)
      exact J_load rfl _ (.tmp 9) rfl (by rw [o9]; exact ld_gift (HK3.out.below hI.st.bl)) (hK _ _ (hI.put0 45 rfl rfl hI.st.up))
    refine JSteps.cons (fun V Ld a W hLi hpre hR hI K hK => ?_) ?_
    · have pg40 : Ld 40 = true := hpre 40 (List.mem_of_elem_eq_true (by kernel_rfl))
      refine G_g (hR.want' 40 rfl rfl rfl pg40 (hI.val 40 _ rfl pg40)) ?_
      have p44 : Ld 44 = true := hpre 44 (List.mem_of_elem_eq_true (by kernel_rfl))
      have f44 := (hR.ev 44 rfl rfl p44).trans (hI.val 44 _ rfl p44)
      have p45 : Ld 45 = true := hpre 45 (List.mem_of_elem_eq_true (by kernel_rfl))
      have f45 := (hR.ev 45 rfl rfl p45).trans (hI.val 45 _ rfl p45)
      refine J_call rfl _ _ _ rfl enter_rdif (by simp only [List.map_toArray, List.map_cons, List.map_nil, f44, f45]) (C9.out W hI.st.bl) ?_
      rintro e w' ⟨rfl, hb⟩
      exact ⟨_, rfl, hK _ _ (hI.put (R := Bl) hb 46 rfl rfl (hI.st.to hb))⟩
    refine JSteps.cons (fun V Ld a W hLi hpre hR hI K hK => ?_) ?_
    · have pg40 : Ld 40 = true := hpre 40 (List.mem_of_elem_eq_true (by kernel_rfl))
      refine G_g (hR.want' 40 rfl rfl rfl pg40 (hI.val 40 _ rfl pg40)) ?_
      have p43 : Ld 43 = true := hpre 43 (List.mem_of_elem_eq_true (by kernel_rfl))
      have f43 := (hR.ev 43 rfl rfl p43).trans (hI.val 43 _ rfl p43)
      have p46 : Ld 46 = true := hpre 46 (List.mem_of_elem_eq_true (by kernel_rfl))
      have f46 := (hR.ev 46 rfl rfl p46).trans (hI.val 46 _ rfl p46)
      exact J_binOp rfl .eql _ (.tmp 80) (.tmp 83) _ rfl (by rw [f43, f46]; go_simp) (hK _ _ (hI.put0 47 rfl rfl hI.st.up))
    refine JSteps.cons (fun V Ld a W hLi hpre hR hI K hK => ?_) ?_
    · have p40 : Ld 40 = true := hpre 40 (List.mem_of_elem_eq_true (by kernel_rfl))
      have f40 := (hR.ev 40 rfl rfl p40).trans (hI.val 40 _ rfl p40)
      have p47 : Ld 47 = true := hpre 47 (List.mem_of_elem_eq_true (by kernel_rfl))
      have f47 := (hR.ev 47 rfl rfl p47).trans (hI.val 47 _ rfl p47)
      exact G_pick rfl (.tmp 77) (.tmp 84) (.const (.bool false)) rfl f40 (show _ = _ from f47) (hK _ _ (hI.put0 48 rfl rfl hI.st.up))
    refine JSteps.cons (fun V Ld a W hLi hpre hR hI K hK => ?_) trivial
    · have p48 : Ld 48 = true := hpre 48 (List.mem_of_elem_eq_true (by kernel_rfl))
      have f48 := (hR.ev 48 rfl rfl p48).trans (hI.val 48 _ rfl p48)
      exact G_assign rfl (.tmp 85) rfl f48 (hK _ _ (hI.put0 49 rfl rfl hI.st.up))
  case refine_3 =>
    intro V Ld w9 hLd hI
    have e1 : V 49 = .bool true := hI.val 49 _ rfl (hLd 49 (by decide))
    have hb9 := HB1.out.trans (hI.st.bl.mono HLT.out)
    clear hI hLd
    simp only [finL, putL, Act.put, Nat.reduceAdd]
    rw [e1]
    simp only [List.setIfInBounds_toArray, List.set_cons_succ, List.set_cons_zero]
    go_wp2_with fail
    go_ret
    exact RetB.bool rfl (by rw [hpx]; exact hb9)
end Go.Proofs.YtjckpammcgeloaaDoor
