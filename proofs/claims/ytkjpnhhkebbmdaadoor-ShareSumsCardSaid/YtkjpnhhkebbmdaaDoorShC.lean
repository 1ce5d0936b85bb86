/-
  Shares: which lists are good.
-/
import Derived.Test.YtkjpnhhkebbmdaaDoorShB
namespace Go.Proofs.YtkjpnhhkebbmdaaDoor
open Go.RowKit

theorem not_gd_st {p h : Int} {S : List Shr} {k : Nat} (H : stB p h (hS S k) (vS S k) = false) : ¬ GdAt p h S k := fun g => by have := g.st; rw [H] at this; cases this
set_option maxRecDepth 100000 in
set_option maxHeartbeats 4000000 in
theorem good_any {P : Nat → Prop} (p n h : Int) (A : Option Addr) (c : Nat) (S : List Shr) (w : World) (hS : ShP P w A c S) (hsh : Short S) (hh : h ≤ 16) (hl : S.length ≤ 1048576) :
    Calls Tryd.prog 55 #[planV p n h, .slice A S.length c] w (RetB (.bool (gdB p h S)) w) := by
  have HS := Lib.hid hS
  have HSH := Lib.hid hsh
  clear hS hsh
  go_enter Tryd.func55, Tryd.ntmps55
  go_wp2_with fail
  go_loopw [10] (fun i wr => ∃ k : Nat, k ≤ S.length ∧ i = .int .i64 k ∧ (∀ j, j < k → GdAt p h S j) ∧ PlanCell wr w.heap.size p n h ∧ SeenAt wr (w.heap.size + 1) (seenF S k) ∧ Below w.heap.size w wr) (fun i _ => S.length - (intOf i).toNat)
  case atStart =>
    refine ⟨0, Nat.zero_le _, rfl, fun j hj => absurd hj (by omega), (PlanCell.new p n h rfl).alloc _, ⟨by simp, fun j hj => ?_, fun j => ?_⟩, below_trans (below_alloc _ _) (below_alloc _ _)⟩
    · have e := heap_alloc_new (w.alloc (.cells #[.int .i64 p, .int .i64 n, .int .i64 h] 24)) (.cells (Array.replicate 17 (.bool false)) 99)
      rw [size_alloc] at e
      rw [show #[Value.bool false, Value.bool false, Value.bool false, Value.bool false, Value.bool false, Value.bool false, Value.bool false, Value.bool false, Value.bool false, Value.bool false, Value.bool false, Value.bool false, Value.bool false, Value.bool false, Value.bool false, Value.bool false, Value.bool false] = Array.replicate 17 (.bool false) from rfl, cell_of_row _ _ j _ _ (0, 0) e]
      simp [hj, seenF_zero]
    · have e := heap_alloc_new (w.alloc (.cells #[.int .i64 p, .int .i64 n, .int .i64 h] 24)) (.cells #[Value.bool false, Value.bool false, Value.bool false, Value.bool false, Value.bool false, Value.bool false, Value.bool false, Value.bool false, Value.bool false, Value.bool false, Value.bool false, Value.bool false, Value.bool false, Value.bool false, Value.bool false, Value.bool false, Value.bool false] 99)
      rw [size_alloc] at e
      unfold World.frozen?; rw [e]; simp
  case round =>
    obtain ⟨k, hk, rfl, hgd, hpl, hsn, hbr⟩ := hrel
    have HG := Lib.hid hgd
    clear hgd
    by_cases hlt : k < S.length
    · obtain ⟨b, off, B, c1, hA, hb, hPb, h1, h2, h3⟩ := (HS.out.below hbr).at_ k hlt
      obtain ⟨b0, off0, B0, c0, hA0, hb0, -, -, z1, -⟩ := (HS.out.below hbr).at_ 0 (by omega)
      rw [hA] at hA0
      injection hA0 with e0
      injection e0 with e1 e2
      subst e1; subst e2; subst hA
      rw [Nat.zero_mul, Nat.add_zero] at z1
      have hI := Lib.hid h3.ints
      have hvl := HSH.out k hlt
      have hvl0 := HSH.out 0 (by omega)
      have HGD : Hid (∀ (l0 : Nat), l0 = (vS S 0).length → (stB p h (hS S k) (vS S k) = false ∨ (∃ m : Nat, hS S k = (m : Int) ∧ seenF S k m = true) ∨ (vS S k).length ≠ l0 ∨ 2048 < (vS S k).length) → false = gdB p h S) := fun l0 hl0 hc => by
        subst hl0
        refine gdB_no k hlt ?_
        rcases hc with hc | ⟨m, hm, hc⟩ | hc | hc
        · exact not_gd_st hc
        · exact fun g => seenF_yes hm hc g.new
        · exact fun g => hc g.len
        · exact fun g => by have := g.few; omega
      have HOK : Hid (∀ (m : Nat), hS S k = (m : Int) → stB p h (hS S k) (vS S k) = true → seenF S k m = false → (vS S k).length = (vS S 0).length → (vS S k).length ≤ 2048 → GdAt p h S k) :=
        fun m hm h1 h2 h3 h4 => ⟨h1, h3, h4, seenF_no hm h2⟩
      have HSF : Hid (∀ m : Nat, hS S k = (m : Int) → seenF S (k + 1) = fun i => if i = m then true else seenF S k i) := fun m hm => funext fun i => seenF_succ S k m hm i
      generalize hS S k = x at *
      generalize vS S k = L at *
      obtain ⟨l0, hl0⟩ : ∃ l0, l0 = (vS S 0).length := ⟨_, rfl⟩
      rw [← hl0] at z1 hvl0 HOK
      have HL0 := Lib.hid hl0
      clear h3 hl0
      go_wp2_with fail
      refine gen_world fun w1 hw1 => ?_
      have hb1 : Below wr.heap.size wr w1 := by rw [hw1]; exact below_alloc _ _
      have hsc : ShCell w1 wr.heap.size x (.slice B L.length c1) := by rw [hw1]; exact ShCell.new _ _ rfl
      have hp1 := hpl.below hb1
      have hs1 := hsn.below hb1
      have s0 := hsc.c0
      have s1 := hsc.c1
      have p0 := hp1.c0
      have p1 := hp1.c1
      have p2 := hp1.c2
      have lp := hp1.lt
      have ln := hs1.lt
      have ls := blk_lt hsc
      have z2 := (hb1.cell (p := ⟨b, off + 1, none⟩) hb).trans z1
      have lb := Nat.lt_of_lt_of_le hb hb1.size
      have HST := Lib.hid (fun (W : World) (hb : Below w1.heap.size w1 W) => stands_any p n h x B L c1 W ((hI.out.below hb1).below hb) (by omega))
      have hbw := below_trans hbr hb1
      have HSB := Lib.hid (fun (H : stB p h x L = true) => stB_bd H)
      clear hw1 h1 h2 z1 hsc hsn hI
      generalize stB p h x L = st at *
      cases st with
      | false =>
        have HV := Lib.hid (HGD.out l0 HL0.out (.inl rfl))
        clear hp1 hs1
        refine wp_region_grew (by kernel_rfl) (by kernel_rfl) ?_
        repeat (go_big_quiet_step ((go_at_call 59; exact grew_of (HST.out _ (grewW.below _ _)))))
        refine wpQuiet_nil ?_
        intro w2 hb2
        go_wp2_with fail
        go_ret
        exact RetB.bool HV.out (below_trans hbw hb2)
      | true =>
        obtain ⟨x1, x2, -⟩ := HSB.out rfl
        obtain ⟨m, rfl⟩ := Int.eq_ofNat_of_zero_le (show 0 ≤ x by omega)
        have hm17 : m < 17 := by omega
        have i1 : (0 : Int) ≤ (m : Int) := by omega
        have i2 : (m : Int) < 17 := by omega
        have y1 := hs1.cell m hm17
        have y2 := hs1.free m
        cases hsv : seenF S k m with
        | true =>
          have HV := Lib.hid (HGD.out l0 HL0.out (.inr (.inl ⟨m, rfl, hsv⟩)))
          rw [hsv] at y1
          clear hp1 hs1 hsv
          refine wp_region_grew (by kernel_rfl) (by kernel_rfl) ?_
          repeat (go_big_quiet_step ((go_at_call 59; exact grew_of (HST.out _ (grewW.below _ _)))))
          refine wpQuiet_nil ?_
          intro w2 hb2
          go_wp2_with fail
          go_ret
          exact RetB.bool HV.out (below_trans hbw hb2)
        | false =>
          rw [hsv] at y1
          have HSV := Lib.hid hsv
          clear hsv
          by_cases hle : L.length = l0
          · have t1 : ((L.length : Int) != (l0 : Int)) = false := by simp; omega
            by_cases hfw : 2048 < L.length
            · have HV := Lib.hid (HGD.out l0 HL0.out (.inr (.inr (.inr hfw))))
              have t2 : decide (2048 < (L.length : Int)) = true := decide_eq_true (by omega)
              clear hp1 hs1 hle
              refine wp_region_grew (by kernel_rfl) (by kernel_rfl) ?_
              repeat (go_big_quiet_step ((go_at_call 59; exact grew_of (HST.out _ (grewW.below _ _)))))
              refine wpQuiet_nil ?_
              intro w2 hb2
              go_wp2_with fail
              go_ret
              exact RetB.bool HV.out (below_trans hbw hb2)
            · have HK := Lib.hid (HOK.out m rfl rfl HSV.out hle (by omega))
              have t2 : decide (2048 < (L.length : Int)) = false := decide_eq_false (by omega)
              have HP1 := Lib.hid hp1
              have HS1 := Lib.hid hs1
              clear hp1 hs1 hle
              refine wp_region_grew (by kernel_rfl) (by kernel_rfl) ?_
              repeat (go_big_quiet_step ((go_at_call 59; exact grew_of (HST.out _ (grewW.below _ _)))))
              refine wpQuiet_nil ?_
              intro w2 hb2
              have k0 := (hb2.cell (p := ⟨wr.heap.size, 0, none⟩) ls).trans s0
              have k1 := (HS1.out.below hb2).cell m hm17
              have k2 := (HS1.out.below hb2).free m
              go_wp2_with fail
              go_roundw
              case rel =>
                refine ⟨k + 1, by omega, by go_num, fun j hj => ?_, ?_, ?_, ?_⟩
                · by_cases hjk : j = k
                  · subst hjk; exact HK.out
                  · exact HG.out j (by omega)
                · exact (HP1.out.below hb2).keep (Below.heap_setCell _ _ _ _ (by simp))
                · rw [HSF.out m rfl]; exact (HS1.out.below hb2).set_ m hm17
                · exact (below_trans hbw hb2).setCell (by simp) _
              case measure => simp [intOf]; omega
          · have HV := Lib.hid (HGD.out l0 HL0.out (.inr (.inr (.inl hle))))
            have t1 : ((L.length : Int) != (l0 : Int)) = true := by simp; omega
            clear hp1 hs1
            refine wp_region_grew (by kernel_rfl) (by kernel_rfl) ?_
            repeat (go_big_quiet_step ((go_at_call 59; exact grew_of (HST.out _ (grewW.below _ _)))))
            refine wpQuiet_nil ?_
            intro w2 hb2
            go_wp2_with fail
            go_ret
            exact RetB.bool HV.out (below_trans hbw hb2)
    · have HV := Lib.hid (gdB_yes (fun j hj => HG.out j (by omega)))
      go_wp2_with fail
      go_ret
      exact RetB.bool HV.out hbr
end Go.Proofs.YtkjpnhhkebbmdaaDoor
