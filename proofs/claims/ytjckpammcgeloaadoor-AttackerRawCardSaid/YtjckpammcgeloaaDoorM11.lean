/-
  AttackerRaw: the walk.
  A slice of numbers that came in reads as a list.
  Lists of numbers that came in, with what is known of their room.
  A slice of shares that came in reads as a list of shares.
  A gift that came in.
  Conditions: those that each theorem names.
-/
import Derived.Test.YtjckpammcgeloaaDoorM10
import Derived.Deep.SlicePairs
import Derived.ChangeArms
import Derived.OpenShut
import Derived.Lib.SmallJoins
set_option linter.unusedVariables false
set_option linter.unusedSimpArgs false
namespace Go.Proofs.YtjckpammcgeloaaDoor
open Go.RowKit

theorem lit_two {P : Nat → Prop} {w : World} {g : Nat} {x y : Int} {B C : Option Addr} {c d : Nat} {L M : List Int} (hg : w.heap[g]? = some (.cells #[.int .i64 x, .slice B L.length c, .int .i64 y, .slice C M.length d] 35 (0, 0))) (hP : P g) (hI : IntsP P w B c L) (hJ : IntsP P w C d M) : ShP P w (some ⟨g, 0, none⟩) 2 [(x, L), (y, M)] := by
  refine ⟨fun k hk => ?_, ⟨by simp, by unfold maxLen; omega, (fun e => by cases e), .inr (fun a e => by injection e with e; subst e; rfl)⟩⟩
  have : k = 0 ∨ k = 1 := by simp at hk; omega
  rcases this with rfl | rfl
  · refine ⟨g, 0, B, c, rfl, blk_lt hg, hP, ?_, ?_, hI⟩
    · rw [cell_of_row w g (0 + 0 * 2) _ _ (0, 0) hg]; rfl
    · rw [cell_of_row w g (0 + 0 * 2 + 1) _ _ (0, 0) hg]; rfl
  · refine ⟨g, 0, C, d, rfl, blk_lt hg, hP, ?_, ?_, hJ⟩
    · rw [cell_of_row w g (0 + 1 * 2) _ _ (0, 0) hg]; rfl
    · rw [cell_of_row w g (0 + 1 * 2 + 1) _ _ (0, 0) hg]; rfl
theorem tiny_of {G : GiftD} (h1 : smB G.bx = true) (h2 : smB G.wh = true) (hk : G.kv.length ≤ 20) : GTiny G := by
  obtain ⟨a1, a2⟩ := smB_of h1
  obtain ⟨b1, b2⟩ := smB_of h2
  exact ⟨fun k hk => by have := a2 k hk; omega, fun k hk => by have := b2 k hk; omega, by omega, by omega, by omega⟩
theorem valsG_len {G : GiftD} (h : GTiny G) : (valsG G).length ≤ 1152921504606846976 := by
  have h1 := h.all
  have := vlsK_len h1.1 (allS G).length (Nat.le_refl _)
  unfold valsG
  have := Nat.mul_le_mul_right 1000 h1.2
  omega
theorem difP_self (G : GiftD) : difP G G = false := by
  unfold difP
  rw [show sameL (valsG G) (valsG G) = true from by simp [sameL]]
  simp
set_option maxRecDepth 100000 in
set_option maxHeartbeats 8000000 in
theorem attackerRaw_walk (u : Value) (G : GiftD) (v : Value) (K : GiftD) (w : World) (hB : Bases w) (hG : GiftR (fun _ => True) w u G) (hg1 : G.bx.length ≤ maxLen) (hg2 : G.wh.length ≤ maxLen) (hK : GiftR (fun _ => True) w v K) (hk1 : K.bx.length ≤ maxLen) (hk2 : K.wh.length ≤ maxLen) :
    Calls Tryd.prog 4 #[u, v] w (RetB (.bool true) w) := by
  have HB := Lib.hid hB
  have HG := Lib.hid hG
  have HK := Lib.hid hK
  obtain ⟨A, ca, B, cb, C, cc, rfl, h1, h2, h3⟩ := hG
  obtain ⟨A', ca', B', cb', C', cc', rfl, k1, k2, k3⟩ := hK
  have S1 := Lib.hid (fun (W : World) (hb : Below w.heap.size w W) => small_any A ca G.bx W (h1.below hb) hg1)
  have S2 := Lib.hid (fun (W : World) (hb : Below w.heap.size w W) => small_any A' ca' K.bx W (k1.below hb) hk1)
  have S3 := Lib.hid (fun (W : World) (hb : Below w.heap.size w W) => small_any B cb G.wh W (h2.below hb) hg2)
  have S4 := Lib.hid (fun (W : World) (hb : Below w.heap.size w W) => small_any B' cb' K.wh W (k2.below hb) hk2)
  have S5 := Lib.hid (fun (W : World) (hb : Below w.heap.size w W) (g : Nat) (hg : W.heap[g]? = some (.cells #[.int .i64 G.kh, .slice C G.kv.length cc, .int .i64 K.kh, .slice C' K.kv.length cc'] 35 (0, 0))) =>
    small_any (some ⟨g, 0, none⟩) 2 [(G.kh, G.kv), (K.kh, K.kv)] W (lit_two (P := fun _ => True) hg trivial (h3.keep (Kept.below hb)) (k3.keep (Kept.below hb))) (by unfold maxLen; simp))
  have HT := Lib.hid (fun (q1 : smB G.bx = true) (q2 : smB K.bx = true) (q3 : smB G.wh = true) (q4 : smB K.wh = true) (q5 : smB [(G.kh, G.kv), (K.kh, K.kv)] = true) => (show GTiny G ∧ GTiny K from by
    obtain ⟨-, q6⟩ := smB_of q5
    exact ⟨tiny_of q1 q3 (q6 0 (by simp)), tiny_of q2 q4 (q6 1 (by simp))⟩))
  have HEQ := Lib.hid (dif_same G K)
  have HDG := Lib.hid (And.intro (difP_self K) (eqG_refl G))
  clear h1 h2 h3 k1 k2 k3 hB hg1 hg2 hk1 hk2
  have HXP := Lib.hid (show ∀ (W : World) (_ : Below w.heap.size w W) (_ : GTiny G) (_ : GTiny K), Calls Tryd.prog 17 #[giftV G.h (.slice A G.bx.length ca) (.slice B G.wh.length cb) G.kh (.slice C G.kv.length cc), giftV K.h (.slice A' K.bx.length ca') (.slice B' K.wh.length cb') K.kh (.slice C' K.kv.length cc')] W (RetB (.bool (eqG G K)) W) from fun W hb s1 s2 => same_gift _ _ G K W (HG.out.below hb) (HK.out.below hb) s1.small)
  have HXR := Lib.hid (show ∀ (W : World) (_ : Below w.heap.size w W) (_ : GTiny G) (_ : GTiny K), Calls Tryd.prog 18 #[giftV G.h (.slice A G.bx.length ca) (.slice B G.wh.length cb) G.kh (.slice C G.kv.length cc), giftV K.h (.slice A' K.bx.length ca') (.slice B' K.wh.length cb') K.kh (.slice C' K.kv.length cc')] W (RetB (.bool (eqG G K)) W) from fun W hb s1 s2 => ref42Same_any _ _ G K W (HG.out.below hb) (HK.out.below hb) s1.small)
  have HXS := Lib.hid (show ∀ (W : World) (_ : Below w.heap.size w W) (_ : GTiny G), Calls Tryd.prog 17 #[giftV G.h (.slice A G.bx.length ca) (.slice B G.wh.length cb) G.kh (.slice C G.kv.length cc), giftV G.h (.slice A G.bx.length ca) (.slice B G.wh.length cb) G.kh (.slice C G.kv.length cc)] W (RetB (.bool true) W) from fun W hb s1 => by
    have := same_gift _ _ G G W (HG.out.below hb) (HG.out.below hb) s1.small
    rw [HDG.out.2] at this; exact this)
  have HDP := Lib.hid (show ∀ (W : World) (_ : Below w.heap.size w W) (_ : GTiny G) (_ : GTiny K), Calls Tryd.prog 19 #[giftV G.h (.slice A G.bx.length ca) (.slice B G.wh.length cb) G.kh (.slice C G.kv.length cc), giftV K.h (.slice A' K.bx.length ca') (.slice B' K.wh.length cb') K.kh (.slice C' K.kv.length cc')] W (RetB (.bool (difP G K)) W) from fun W hb s1 s2 => differs_any _ _ G K W (HG.out.below hb) (HK.out.below hb) s1 s2 (valsG_len s1))
  have HDR := Lib.hid (show ∀ (W : World) (_ : Below w.heap.size w W) (_ : GTiny G) (_ : GTiny K), Calls Tryd.prog 20 #[giftV G.h (.slice A G.bx.length ca) (.slice B G.wh.length cb) G.kh (.slice C G.kv.length cc), giftV K.h (.slice A' K.bx.length ca') (.slice B' K.wh.length cb') K.kh (.slice C' K.kv.length cc')] W (RetB (.bool (difP G K)) W) from fun W hb s1 s2 => by
    have := refDiffers_any _ _ G K W (HG.out.below hb) (HK.out.below hb) s1.small
    rw [← HEQ.out] at this; exact this)
  have HDS := Lib.hid (show ∀ (W : World) (_ : Below w.heap.size w W) (_ : GTiny K), Calls Tryd.prog 19 #[giftV K.h (.slice A' K.bx.length ca') (.slice B' K.wh.length cb') K.kh (.slice C' K.kv.length cc'), giftV K.h (.slice A' K.bx.length ca') (.slice B' K.wh.length cb') K.kh (.slice C' K.kv.length cc')] W (RetB (.bool false) W) from fun W hb s1 => by
    have := differs_any _ _ K K W (HK.out.below hb) (HK.out.below hb) s1 s1 (valsG_len s1)
    rw [HDG.out.1] at this; exact this)
  clear HEQ HDG HG HK
  generalize eqG G K = q at *
  generalize difP G K = d at *
  obtain ⟨gh, S, T, gkh, M⟩ := G
  obtain ⟨kh, S', T', kkh, M'⟩ := K
  simp only at *
  go_enter Tryd.func4, Tryd.ntmps4
  go_upto_region 1 with fail
  refine gen_world fun w1 hw1 => ?_
  have hb1 : Below w.heap.size w w1 := by rw [hw1]; exact bl_alloc _ (below_alloc _ _)
  have HC := Lib.hid (show GiftCell w1 w.heap.size gh (.slice A S.length ca) (.slice B T.length cb) gkh (.slice C M.length cc) from by rw [hw1]; exact (GiftCell.new _ _ _ _ _ rfl).alloc _)
  have HD := Lib.hid (show GiftCell w1 (w.heap.size + 1) kh (.slice A' S'.length ca') (.slice B' T'.length cb') kkh (.slice C' M'.length cc') from by rw [hw1]; exact GiftCell.new _ _ _ _ _ (by simp))
  clear hw1
  have HB1 := Lib.hid hb1
  clear hb1
  have x1 := HC.out.c1
  have x2 := HC.out.c2
  have y1 := HD.out.c1
  have y2 := HD.out.c2
  have lx := HC.out.lt
  have ly := HD.out.lt
  by_cases l1 : (S.length : Int) ≤ 10
  · skip
    by_cases l2 : (S'.length : Int) ≤ 10
    · skip
      by_cases l3 : (T.length : Int) ≤ 10
      · skip
        by_cases l4 : (T'.length : Int) ≤ 10
        · skip
          go_wp2_with fail
          refine ret_below (S1.out _ HB1.out) fun w2 hb2 => ?_
          replace HC := Lib.hid (HC.out.below hb2)
          replace HD := Lib.hid (HD.out.below hb2)
          replace HB1 := Lib.hid (below_trans HB1.out hb2)
          clear x1 x2 y1 y2 lx ly
          have x1 := HC.out.c1
          have x2 := HC.out.c2
          have y1 := HD.out.c1
          have y2 := HD.out.c2
          have lx := HC.out.lt
          have ly := HD.out.lt
          cases q1 : smB S with
          | false =>
            clear q1
            go_wp2_with fail
            refine ret_below (awake42 _ (HB.out.below HB1.out HB.out.1)) fun w9 hb9 => ?_
            go_wp2_with fail
            go_ret
            exact RetB.bool rfl (below_trans HB1.out hb9)
          | true =>
            have Q1 := Lib.hid q1
            clear q1
            go_wp2_with fail
            refine ret_below (S2.out _ HB1.out) fun w3 hb3 => ?_
            replace HC := Lib.hid (HC.out.below hb3)
            replace HD := Lib.hid (HD.out.below hb3)
            replace HB1 := Lib.hid (below_trans HB1.out hb3)
            clear x1 x2 y1 y2 lx ly
            have x1 := HC.out.c1
            have x2 := HC.out.c2
            have y1 := HD.out.c1
            have y2 := HD.out.c2
            have lx := HC.out.lt
            have ly := HD.out.lt
            cases q2 : smB S' with
            | false =>
              clear q2
              go_wp2_with fail
              refine ret_below (awake42 _ (HB.out.below HB1.out HB.out.1)) fun w9 hb9 => ?_
              go_wp2_with fail
              go_ret
              exact RetB.bool rfl (below_trans HB1.out hb9)
            | true =>
              have Q2 := Lib.hid q2
              clear q2
              go_wp2_with fail
              refine ret_below (S3.out _ HB1.out) fun w4 hb4 => ?_
              replace HC := Lib.hid (HC.out.below hb4)
              replace HD := Lib.hid (HD.out.below hb4)
              replace HB1 := Lib.hid (below_trans HB1.out hb4)
              clear x1 x2 y1 y2 lx ly
              have x1 := HC.out.c1
              have x2 := HC.out.c2
              have y1 := HD.out.c1
              have y2 := HD.out.c2
              have lx := HC.out.lt
              have ly := HD.out.lt
              cases q3 : smB T with
              | false =>
                clear q3
                go_wp2_with fail
                refine ret_below (awake42 _ (HB.out.below HB1.out HB.out.1)) fun w9 hb9 => ?_
                go_wp2_with fail
                go_ret
                exact RetB.bool rfl (below_trans HB1.out hb9)
              | true =>
                have Q3 := Lib.hid q3
                clear q3
                go_wp2_with fail
                refine ret_below (S4.out _ HB1.out) fun w5 hb5 => ?_
                replace HC := Lib.hid (HC.out.below hb5)
                replace HD := Lib.hid (HD.out.below hb5)
                replace HB1 := Lib.hid (below_trans HB1.out hb5)
                clear x1 x2 y1 y2 lx ly
                have x1 := HC.out.c1
                have x2 := HC.out.c2
                have y1 := HD.out.c1
                have y2 := HD.out.c2
                have lx := HC.out.lt
                have ly := HD.out.lt
                cases q4 : smB T' with
                | false =>
                  clear q4
                  go_wp2_with fail
                  refine ret_below (awake42 _ (HB.out.below HB1.out HB.out.1)) fun w9 hb9 => ?_
                  go_wp2_with fail
                  go_ret
                  exact RetB.bool rfl (below_trans HB1.out hb9)
                | true =>
                  have Q4 := Lib.hid q4
                  clear q4
                  have x3 := HC.out.c3
                  have x4 := HC.out.c4
                  have y3 := HD.out.c3
                  have y4 := HD.out.c4
                  go_wp2_with fail
                  refine gen_calls fun w6 hw6 => ?_
                  have hb6 : Below w5.heap.size w5 w6 := by rw [hw6]; exact below_alloc _ _
                  have hg6 : w6.heap[w5.heap.size]? = some (.cells #[.int .i64 gkh, .slice C M.length cc, .int .i64 kkh, .slice C' M'.length cc'] 35 (0, 0)) := by rw [hw6]; exact heap_alloc_new _ _
                  clear hw6 x3 x4 y3 y4
                  replace HB1 := Lib.hid (below_trans HB1.out hb6)
                  refine ret_below (S5.out _ HB1.out _ hg6) fun w7 hb7 => ?_
                  replace HC := Lib.hid (HC.out.below (below_trans hb6 hb7))
                  replace HD := Lib.hid (HD.out.below (below_trans hb6 hb7))
                  replace HB1 := Lib.hid (below_trans HB1.out hb7)
                  clear x1 x2 y1 y2 lx ly hg6 hb6 hb7 hb2 hb3 hb4 hb5
                  cases q5 : smB [(gkh, M), (kkh, M')] with
                  | false =>
                    clear q5
                    go_wp2_with fail
                    refine ret_below (awake42 _ (HB.out.below HB1.out HB.out.1)) fun w9 hb9 => ?_
                    go_wp2_with fail
                    go_ret
                    exact RetB.bool rfl (below_trans HB1.out hb9)
                  | true =>
                    obtain ⟨sG, sK⟩ := HT.out Q1.out Q2.out Q3.out Q4.out q5
                    have C1 := Lib.hid (fun (W : World) (hb : Below w.heap.size w W) => HXP.out W hb sG sK)
                    have C2 := Lib.hid (fun (W : World) (hb : Below w.heap.size w W) => HXR.out W hb sG sK)
                    have C3 := Lib.hid (fun (W : World) (hb : Below w.heap.size w W) => HXS.out W hb sG)
                    have C4 := Lib.hid (fun (W : World) (hb : Below w.heap.size w W) => HDP.out W hb sG sK)
                    have C5 := Lib.hid (fun (W : World) (hb : Below w.heap.size w W) => HDR.out W hb sG sK)
                    have C6 := Lib.hid (fun (W : World) (hb : Below w.heap.size w W) => HDS.out W hb sK)
                    clear q5 sG sK HT HXP HXR HXS HDP HDR HDS Q1 Q2 Q3 Q4 S1 S2 S3 S4 S5
                    have x0 := HC.out.c0
                    have x1 := HC.out.c1
                    have x2 := HC.out.c2
                    have x3 := HC.out.c3
                    have x4 := HC.out.c4
                    have y0 := HD.out.c0
                    have y1 := HD.out.c1
                    have y2 := HD.out.c2
                    have y3 := HD.out.c3
                    have y4 := HD.out.c4
                    have lx := HC.out.lt
                    have ly := HD.out.lt
                    go_wp2_with fail
                    have fq : (q == q) = true := beq_self_eq_true q
                    have fd : (d == d) = true := beq_self_eq_true d
                    refine wp_region_grew (by kernel_rfl) (by kernel_rfl) ?_
                    iterate 20 (go_big_quiet_step ((first
                      | (go_at_call 8; exact grew_of (awake42 _ (HB.out.below (below_trans HB1.out (grewW.below _ _)) HB.out.1)))
                      | (go_at_call 17; exact grew_of (C1.out _ (below_trans HB1.out (grewW.below _ _))))
                      | (go_at_call 18; exact grew_of (C2.out _ (below_trans HB1.out (grewW.below _ _))))
                      | (go_at_call 19; exact grew_of (C4.out _ (below_trans HB1.out (grewW.below _ _))))
                      | (go_at_call 20; exact grew_of (C5.out _ (below_trans HB1.out (grewW.below _ _)))))))
                    repeat (go_big_quiet_step ((first
                      | (go_at_call 17; exact grew_of (C3.out _ (below_trans HB1.out (grewW.below _ _))))
                      | (go_at_call 19; exact grew_of (C6.out _ (below_trans HB1.out (grewW.below _ _)))))))
                    refine wpQuiet_nil ?_
                    intro w8 hb8
                    go_wp2_with fail
                    go_ret
                    exact RetB.bool rfl (below_trans HB1.out hb8)
        · have l4' : (10 : Int) < (T'.length : Int) := by omega
          go_wp2_with fail
          refine ret_below (awake42 _ (HB.out.below HB1.out HB.out.1)) fun w9 hb9 => ?_
          go_wp2_with fail
          go_ret
          exact RetB.bool rfl (below_trans HB1.out hb9)
      · have l3' : (10 : Int) < (T.length : Int) := by omega
        go_wp2_with fail
        refine ret_below (awake42 _ (HB.out.below HB1.out HB.out.1)) fun w9 hb9 => ?_
        go_wp2_with fail
        go_ret
        exact RetB.bool rfl (below_trans HB1.out hb9)
    · have l2' : (10 : Int) < (S'.length : Int) := by omega
      go_wp2_with fail
      refine ret_below (awake42 _ (HB.out.below HB1.out HB.out.1)) fun w9 hb9 => ?_
      go_wp2_with fail
      go_ret
      exact RetB.bool rfl (below_trans HB1.out hb9)
  · have l1' : (10 : Int) < (S.length : Int) := by omega
    go_wp2_with fail
    refine ret_below (awake42 _ (HB.out.below HB1.out HB.out.1)) fun w9 hb9 => ?_
    go_wp2_with fail
    go_ret
    exact RetB.bool rfl (below_trans HB1.out hb9)
end Go.Proofs.YtjckpammcgeloaaDoor
namespace Go.Proofs.YtjckpammcgeloaaDoor
open Go.RowKit

theorem cell_block_lt {w : World} {a : Addr} {v : Value} (h : w.cell? a = some v) : a.block < w.heap.size := by
  rcases Nat.lt_or_ge a.block w.heap.size with hlt | hge
  · exact hlt
  · unfold World.cell? at h; simp [Array.getElem?_eq_none hge] at h
theorem open_row {W : World} {x : Addr} {len cap : Nat} {zs : List Int} (hl : len ≤ cap) (hm : cap ≤ maxLen) (hz : zs.length = cap) (hcell : ∀ i, i < zs.length → W.cell? (x.add i) = some (.int .i64 (zs.getD i 0)))
    (hb : ∀ n ∈ zs, -9223372036854775808 ≤ n ∧ n ≤ 9223372036854775807) :
    ∃ ys : List Int, ys.length = len ∧ ys.length ≤ maxLen ∧ IntsAt W (some x) ys ∧ ∀ n ∈ ys, -9223372036854775808 ≤ n ∧ n ≤ 9223372036854775807 := by
  refine ⟨zs.take len, by simp; omega, by simp; omega, fun k hk => ?_, fun n hn => hb n (List.mem_of_mem_take hn)⟩
  have hk' : k < len := by simpa using Nat.lt_of_lt_of_le hk (List.length_take_le _ _)
  have h0 := hcell 0 (by omega)
  have hk0 := hcell k (by omega)
  obtain ⟨b, off, spot⟩ := x
  have hs : spot = none := by simpa [Addr.add] using World.cell?_spot h0
  subst hs
  have hlt := cell_block_lt hk0
  refine ⟨b, off, rfl, ?_, ?_⟩
  · unfold Addr.add at hlt; split at hlt <;> exact hlt
  · have e : (⟨b, off, none⟩ : Addr).add k = ⟨b, off + k, none⟩ := by
      unfold Addr.add; split
      · rename_i h; subst h; rfl
      · rfl
    rw [← e, hk0, nth_eq hk]
    simp [List.getD_eq_getElem?_getD, show k < zs.length by omega]
end Go.Proofs.YtjckpammcgeloaaDoor
namespace Go.Proofs.YtjckpammcgeloaaDoor
open Go.RowKit

theorem open_rowx {W : World} {x : Addr} {len cap : Nat} {zs : List Int} (hl : len ≤ cap) (hm : cap ≤ maxLen) (hz : zs.length = cap) (hcell : ∀ i, i < zs.length → W.cell? (x.add i) = some (.int .i64 (zs.getD i 0)))
    (hb : ∀ n ∈ zs, -9223372036854775808 ≤ n ∧ n ≤ 9223372036854775807) :
    ∃ ys : List Int, ys.length = len ∧ IOK (some x) cap ys.length ∧ IntsAt W (some x) ys ∧ ∀ n ∈ ys, -9223372036854775808 ≤ n ∧ n ≤ 9223372036854775807 := by
  obtain ⟨ys, h1, h2, h3, h4⟩ := open_row hl hm hz hcell hb
  refine ⟨ys, h1, ⟨by omega, hm, (fun e => by cases e), ?_⟩, h3, h4⟩
  rcases Nat.eq_zero_or_pos ys.length with h0 | h0
  · exact .inl h0
  · obtain ⟨b, off, e, _⟩ := h3 0 h0
    injection e with e
    subst e
    exact .inr fun a e2 => by injection e2 with e2; subst e2; rfl
end Go.Proofs.YtjckpammcgeloaaDoor
namespace Go.Proofs.YtjckpammcgeloaaDoor
open Go.RowKit Go.ChangeShapes Go.WideShapes

theorem add_none (b off j : Nat) : (⟨b, off, none⟩ : Addr).add j = ⟨b, off + j, none⟩ := by
  unfold Addr.add; split
  · rename_i h; subst h; rfl
  · rfl
theorem open_shares {H : Type} {enc : TypeId × Value → H} {w : World} {base : Nat} {held : Bool} {n : Nat} {v : Value} {y : DataW H × List MemPlace} (h : DataW.trod enc Tryd.prog w base (fun _ => true) held n 33 [v] = some y) :
    ∃ (B : Option Addr) (S : List Shr) (c : Nat), v = .slice B S.length c ∧ S.length ≤ maxLen ∧ ShP (fun _ => True) w B c S := by
  rcases Deep.open_slice_pairs Tryd.underlying33 Tryd.underlying35 (by kernel_rfl) rfl rfl (by kernel_rfl) (by kernel_rfl) h with ⟨hcs, _⟩ | ⟨a, len, cap, m, n', V0, V1, D0, D1, P0, P1, hcs, _, hl, hm, hmm, _, hx⟩
  · simp only [List.cons.injEq, and_true] at hcs
    subst hcs
    exact ⟨none, [], 0, rfl, by simp [maxLen], ShP.nil _ _⟩
  · simp only [List.cons.injEq, and_true] at hcs
    subst hcs
    have hlm : len ≤ m := by rw [hmm]; split <;> omega
    have each : ∀ i, i < m → ∃ q : Int × List Int, w.cell? (a.add (i * 2)) = some (.int .i64 q.1) ∧ ∃ B c, w.cell? (a.add (i * 2 + 1)) = some (.slice B q.2.length c) ∧ IntsP (fun _ => True) w B c q.2 := fun i hi => by
      obtain ⟨h1, h2, h3, h4⟩ := hx i hi
      obtain ⟨t, e1, _, _⟩ := DataW.trod_int Tryd.underlying3 h3
      simp only [List.cons.injEq, and_true] at e1
      rcases open_ints Tryd.underlying22 Tryd.underlying3 (by kernel_rfl) h4 with ⟨hcs, _⟩ | ⟨x, l, c, zs, hcs, _, hl', hm', hz, _, hcell, hwz⟩
      · simp only [List.cons.injEq, and_true] at hcs
        exact ⟨(t, []), by rw [h1, e1], none, 0, by rw [h2, hcs]; rfl, IntsAt.nil _ _, IOK.none0, fun b off e => by cases e⟩
      · simp only [List.cons.injEq, and_true] at hcs
        obtain ⟨ys, g1, g2, g3, _⟩ := open_rowx hl' hm' (by simpa using hz) hcell (fun n hn => bounds_i64 (hwz n hn))
        exact ⟨(t, ys), by rw [h1, e1], some x, c, by rw [h2, hcs, g1], g3, g2, fun b off e => .inr trivial⟩
    have hq : ∃ q : Nat → Int × List Int, ∀ i, i < m → w.cell? (a.add (i * 2)) = some (.int .i64 (q i).1) ∧ ∃ B c, w.cell? (a.add (i * 2 + 1)) = some (.slice B (q i).2.length c) ∧ IntsP (fun _ => True) w B c (q i).2 :=
      ⟨fun i => if h : i < m then (each i h).choose else (0, []), fun i hi => by simp only [dif_pos hi]; exact (each i hi).choose_spec⟩
    obtain ⟨q, hq⟩ := hq
    have hlen : ((List.range len).map q).length = len := by simp
    have hspot : 0 < len → a.spot = none := fun h0 => by
      have := World.cell?_spot (hq 0 (by omega)).1
      simpa [Addr.add] using this
    refine ⟨some a, (List.range len).map q, cap, by rw [hlen], by rw [hlen]; omega, fun k hk => ?_, by rw [hlen]; omega, hm, (fun e => by cases e), ?_⟩
    · rw [hlen] at hk
      have hs := hspot (by omega)
      obtain ⟨b, off, spot⟩ := a
      have hs : spot = none := hs
      subst hs
      obtain ⟨h1, B, c, h2, h3⟩ := hq k (by omega)
      rw [add_none] at h1 h2
      have hlt := cell_block_lt h1
      have e1 : hS ((List.range len).map q) k = (q k).1 := by simp [hS, List.getD_eq_getElem?_getD, hk]
      have e2 : vS ((List.range len).map q) k = (q k).2 := by simp [vS, List.getD_eq_getElem?_getD, hk]
      refine ⟨b, off, B, c, rfl, hlt, trivial, ?_, ?_, ?_⟩
      · rw [h1, e1]
      · rw [show off + k * 2 + 1 = off + (k * 2 + 1) by omega, h2, e2]
      · rw [e2]; exact h3
    · rcases Nat.eq_zero_or_pos len with h0 | h0
      · exact .inl (by rw [hlen]; exact h0)
      · exact .inr fun a' e => by injection e with e; subst e; exact hspot h0
end Go.Proofs.YtjckpammcgeloaaDoor
namespace Go.Proofs.YtjckpammcgeloaaDoor
open Go.RowKit Go.ChangeShapes Go.WideShapes

theorem open_row1 {H : Type} {enc : TypeId × Value → H} {w : World} {base : Nat} {held : Bool} {n : Nat} {v : Value} {y : DataW H × List MemPlace} (h : DataW.trod enc Tryd.prog w base (fun _ => true) held n 22 [v] = some y) :
    ∃ (B : Option Addr) (L : List Int) (c : Nat), v = .slice B L.length c ∧ IntsP (fun _ => True) w B c L := by
  rcases open_ints Tryd.underlying22 Tryd.underlying3 (by kernel_rfl) h with ⟨hcs, _⟩ | ⟨x, l, c, zs, hcs, _, hl', hm', hz, _, hcell, hwz⟩
  · simp only [List.cons.injEq, and_true] at hcs
    exact ⟨none, [], 0, hcs, IntsP.nil _ _⟩
  · simp only [List.cons.injEq, and_true] at hcs
    obtain ⟨ys, g1, g2, g3, _⟩ := open_rowx hl' hm' (by simpa using hz) hcell (fun n hn => bounds_i64 (hwz n hn))
    exact ⟨some x, ys, c, by rw [hcs, g1], g3, g2, fun b off e => .inr trivial⟩
theorem open_gift {H : Type} {enc : TypeId × Value → H} {r : Reach} {b0 : Nat} {w : World} {base : Nat} {held : Bool} {v : Value} {d : DataW H} {p : List MemPlace} (hv : Value.okWide Tryd.prog w r b0 37 v) (h : DataW.Trod enc Tryd.prog w base (fun _ => true) held 37 v d p) :
    ∃ G : GiftD, GiftR (fun _ => True) w v G ∧ G.bx.length ≤ maxLen ∧ G.wh.length ≤ maxLen := by
  obtain ⟨cs, rfl, hsz⟩ := okWide_struct Tryd.underlying37 hv
  have hsz5 : cs.size = 5 := hsz.trans (by kernel_rfl)
  obtain ⟨l⟩ := cs
  match l, hsz5 with
  | [c0, c1, c2, c3, c4], _ =>
    obtain ⟨fuel, hf⟩ := h
    obtain ⟨y0, y1, y2, y3, n, -, -, h0, h1, h2, h3⟩ := Go.Joins.trod_struct4 Tryd.underlying37 hf
    have e1 : Tryd.prog.cellsOf 3 = 1 := by kernel_rfl
    have e2 : Tryd.prog.cellsOf 33 = 1 := by kernel_rfl
    have e3 : Tryd.prog.cellsOf 35 = 2 := by kernel_rfl
    have e4 : Tryd.prog.cellsOf 22 = 1 := by kernel_rfl
    simp only [Value.cells, e1, e2, e3] at h0 h1 h2 h3
    have h0' : DataW.trod enc Tryd.prog w base (fun _ => true) held n 3 [c0] = some y0 := h0
    have h1' : DataW.trod enc Tryd.prog w base (fun _ => true) held n 33 [c1] = some y1 := h1
    have h2' : DataW.trod enc Tryd.prog w base (fun _ => true) held n 33 [c2] = some y2 := h2
    have h3' : DataW.trod enc Tryd.prog w base (fun _ => true) held n 35 [c3, c4] = some y3 := h3
    obtain ⟨z0, z1, m, -, -, k0, k1⟩ := trod_struct2 Tryd.underlying35 h3'
    simp only [e1, e4] at k0 k1
    have k0' : DataW.trod enc Tryd.prog w base (fun _ => true) held m 3 [c3] = some z0 := k0
    have k1' : DataW.trod enc Tryd.prog w base (fun _ => true) held m 22 [c4] = some z1 := k1
    obtain ⟨gh, q0, -, -⟩ := DataW.trod_int Tryd.underlying3 h0'
    obtain ⟨kh, q1, -, -⟩ := DataW.trod_int Tryd.underlying3 k0'
    simp only [List.cons.injEq, and_true] at q0 q1
    subst q0 q1
    obtain ⟨A, S, ca, rfl, ls, hS⟩ := open_shares h1'
    obtain ⟨B, T, cb, rfl, lt, hT⟩ := open_shares h2'
    obtain ⟨C, M, cc, rfl, hM⟩ := open_row1 k1'
    exact ⟨⟨gh, S, T, kh, M⟩, ⟨A, ca, B, cb, C, cc, rfl, hS, hT, hM⟩, ls, lt⟩
end Go.Proofs.YtjckpammcgeloaaDoor
