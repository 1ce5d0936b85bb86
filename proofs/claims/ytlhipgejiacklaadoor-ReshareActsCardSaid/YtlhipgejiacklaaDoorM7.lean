/-
  Refresh: Apply.
  Refresh: Zero.
  Refresh: Checks.
  Refresh: Own.
  Refresh: Own.
  Refresh: Apply, for any lists.
  Refresh: Sum.
  Shares: the comparison of equal lists; sums of two lists.
  Conditions: those that each theorem names.
-/
import Derived.Test.YtlhipgejiacklaaDoorM6
import Derived.Laws.EntriesVeiled
import Derived.Laws.MakeOwn
set_option linter.unusedVariables false
set_option linter.unusedSimpArgs false
namespace Go.Proofs.YtlhipgejiacklaaDoor
open Go.RowKit

/-! ### What Apply says -/
def ixF (T : Nat → Bool) : Nat → Int
  | 0 => -1
  | m + 1 => if 0 ≤ ixF T m then ixF T m else if T m then (m : Int) else -1
theorem ixF_is (T : Nat → Bool) : ∀ m, IxN T m (ixF T m)
  | 0 => .inl ⟨rfl, fun j hj => absurd hj (by omega)⟩
  | m + 1 => by
    rcases ixF_is T m with ⟨h1, h2⟩ | ⟨k, h1, h2, h3, h4⟩
    · simp only [ixF]
      rw [if_neg (by omega)]
      cases hT : T m with
      | true => exact .inr ⟨m, rfl, by omega, hT, fun j hj => h2 j hj⟩
      | false => exact .inl ⟨rfl, fun j hj => by
          rcases Nat.lt_or_ge j m with h | h
          · exact h2 j h
          · rw [show j = m by omega]; exact hT⟩
    · simp only [ixF]
      rw [if_pos (by omega)]
      exact .inr ⟨k, h1, by omega, h3, h4⟩
theorem ixN_eq {T : Nat → Bool} {m : Nat} {i j : Int} (h : IxN T m i) (g : IxN T m j) : i = j := by
  rcases h with ⟨h1, h2⟩ | ⟨k, h1, h2, h3, h4⟩
  · rcases g with ⟨g1, g2⟩ | ⟨l, g1, g2, g3, g4⟩
    · omega
    · have := h2 l g2; rw [g3] at this; cases this
  · rcases g with ⟨g1, g2⟩ | ⟨l, g1, g2, g3, g4⟩
    · have := g2 k h2; rw [h3] at this; cases this
    · rcases Nat.lt_trichotomy k l with h | h | h
      · have := g4 k h; rw [h3] at this; cases this
      · omega
      · have := h4 l h; rw [g3] at this; cases this
theorem anyN_of {T : Nat → Bool} {m k : Nat} (hk : k < m) (h : T k = true) : anyN T m = true := by
  unfold anyN; rw [List.any_eq_true]; exact ⟨k, List.mem_range.2 hk, h⟩
theorem ixF_any {T : Nat → Bool} {m : Nat} (h : anyN T m = true) : ∃ k : Nat, ixF T m = k ∧ k < m ∧ T k = true := by
  have h1 := ixN_any (ixF_is T m)
  rw [h] at h1
  have h1 := of_decide_eq_true h1
  rcases ixF_is T m with ⟨g1, -⟩ | ⟨k, g1, g2, g3, -⟩
  · omega
  · exact ⟨k, g1, g2, g3⟩
def hasH (M : List ShN) (x : Nat) : Bool := anyN (isH (shL M) x) M.length
def apI (M : List ShN) (x : Nat) : Nat := (ixF (isH (shL M) x) M.length).toNat
def apOk (N M : List ShN) : Bool := !anyN (fun k => !hasH M (hN N k)) N.length
def apE (N M : List ShN) : Int := if apOk N M = true then (if N.length = 0 ∨ (vN N 0).length = (vN M 0).length then 0 else 2) else 5
def apT (p : Nat) (N M : List ShN) : List ShN := (List.range N.length).map fun k => (hN N k, linN p (vN N k) (vN M (apI M (hN N k))) 1)
def apL (p : Nat) (N M : List ShN) : List ShN := if apE N M = 0 then apT p N M else []
theorem apT_len (p : Nat) (N M : List ShN) : (apT p N M).length = N.length := by simp [apT]
theorem apT_at {p k : Nat} {N M : List ShN} (h : k < N.length) : hN (apT p N M) k = hN N k ∧ vN (apT p N M) k = linN p (vN N k) (vN M (apI M (hN N k))) 1 := by
  simp [apT, hN, vN, List.getD_eq_getElem?_getD, h]
theorem apT_take {p k : Nat} {N M : List ShN} (h : k < N.length) : (apT p N M).take (k + 1) = (apT p N M).take k ++ [(hN N k, linN p (vN N k) (vN M (apI M (hN N k))) 1)] := by
  rw [List.take_succ_eq_append_getElem (by rw [apT_len]; exact h), getD_at (by rw [apT_len]; exact h), (apT_at h).1, (apT_at h).2]
theorem apOk_at {N M : List ShN} (h : apOk N M = true) {k : Nat} (hk : k < N.length) : hasH M (hN N k) = true := by
  unfold apOk at h
  cases hh : hasH M (hN N k) with
  | true => rfl
  | false => rw [anyN_of hk (show (fun k => !hasH M (hN N k)) k = true by simp [hh])] at h; cases h
theorem apI_at {M : List ShN} {x : Nat} (h : hasH M x = true) : ixF (isH (shL M) x) M.length = (apI M x : Int) ∧ apI M x < M.length ∧ hN M (apI M x) = x := by
  obtain ⟨k, h1, h2, h3⟩ := ixF_any h
  unfold apI
  rw [h1, Int.toNat_natCast]
  refine ⟨rfl, h2, ?_⟩
  unfold isH at h3
  rw [hS_shL h2] at h3
  have := eq_of_beq h3
  omega
theorem apI_of {p h : Nat} {M : List ShN} (g : GoodN p h M) {k : Nat} (hk : k < M.length) : hasH M (hN M k) = true ∧ apI M (hN M k) = k := by
  have h1 : hasH M (hN M k) = true := anyN_of hk (by unfold isH; rw [hS_shL hk]; simp)
  refine ⟨h1, ?_⟩
  obtain ⟨-, h2, h3⟩ := apI_at h1
  rcases Nat.decEq (apI M (hN M k)) k with hne | he
  · exact absurd h3 (hsN_ne g.nd h2 hk hne)
  · exact he
theorem add_two (p : Nat) (n h x : Int) (B B' : Option Addr) (L M : List Nat) (cb cb' k k' : Nat) (w : World) (hp1 : 1 ≤ p) (hp2 : p ≤ 2147483648) (hv : primeV p = validI p) (hB : Bases w) (hpl : plB p n h = true) (hx1 : 1 ≤ x) (hx2 : x ≤ h) (hk : k = L.length) (hk' : k' = M.length) (hM : M.length = L.length) (hLp : ∀ y ∈ L, y < p) (hMp : ∀ y ∈ M, y < p) (hI : NatsAt w B L) (hJ : NatsAt w B' M) (hl : k ≤ 1048576) :
    Calls Tryd.prog 62 #[planV p n h, shV x (.slice B k cb), shV x (.slice B' k' cb')] w (NewShrE x (linN p L M 1) 0 w) := by
  have hkk : k' = k := by omega
  subst hkk
  refine addS_ok p n h x B B' L M cb cb' k' w hp1 hp2 hv hB hpl ?_ ?_ hk hk' hLp hMp hI.ints hJ.ints hl
  · rw [← stB_in hx1 hx2]; exact nat_inside hLp
  · rw [← stB_in hx1 hx2]; exact nat_inside hMp
theorem add_bad (p : Nat) (n h x : Int) (B B' : Option Addr) (L M : List Nat) (cb cb' : Nat) (w : World) (hv : primeV p = validI p) (hB : Bases w) (hM : M.length ≠ L.length) (hI : NatsAt w B L) (hJ : NatsAt w B' M) (hl : L.length ≤ 1048576) (hm : M.length ≤ 1048576) :
    Calls Tryd.prog 62 #[planV p n h, shV x (.slice B L.length cb), shV x (.slice B' M.length cb')] w (NewShrE 0 [] 1 w) := by
  have := addS_any p n h x x B B' (ofN L) (ofN M) cb cb' w hv hB hI.ints hJ.ints (by rw [len_ofN]; exact hl) (by rw [len_ofN]; exact hm)
  obtain ⟨e1, e2, e3⟩ := ad_no (p := p) (n := n) (h := h) (x := x) (y := x) (L := ofN L) (M := ofN M) (fun H => hM (by have := H.2.2.2.2; rw [len_ofN, len_ofN] at this; exact this.symm))
  rw [e1, e2, e3, len_ofN, len_ofN] at this
  exact this
theorem ap1_at {P : Nat → Prop} (x : Nat) (A : Option Addr) (c j : Nat) (M : List ShN) (g : Nat) (w : World) (hc : w.cell? ⟨g, 0, none⟩ = some (.slice A M.length c)) (hg : g < w.heap.size) (hM : ShP P w A c (shL M)) (hl : M.length ≤ 1000000) (hx : hasH M x = true) (hj : apI M x = j) :
    Calls Tryd.prog 57 #[.int .i64 (x : Int), .pointer (some ⟨g, 0, none⟩)] w (RetB (.int .i64 (j : Int)) w) := by
  refine (ap1_any x A c (shL M) g w (by rw [shL_len]; exact hc) hg hM (by rw [shL_len]; omega)).mono ?_
  rintro e w' ⟨i, rfl, hi, hb⟩
  rw [shL_len] at hi
  rw [ixN_eq hi (ixF_is _ _), (apI_at hx).1, hj]
  exact ⟨rfl, hb⟩

set_option maxRecDepth 100000 in
set_option maxHeartbeats 4000000 in
theorem apply_missing {P P' : Nat → Prop} (p n h : Nat) (A B : Option Addr) (ca cb kA kB : Nat) (N M : List ShN) (w : World) (hv : primeV p = validI p) (hB : Bases w) (hpl : plB p n h = true) (gN : GoodN p h N) (gM : GoodN p h M) (hA : ShP P w A ca (shL N)) (hM : ShP P' w B cb (shL M)) (hkA : kA = N.length) (hkB : kB = M.length) (hl : N.length ≤ 100000) (hl2 : M.length ≤ 100000) (hno : apOk N M = false) :
    Calls Tryd.prog 25 #[planV p n h, .slice A kA ca, .slice B kB cb] w (ShErr (shL (apL p N M)) (apE N M) w) := by
  subst hkA hkB
  have hshN : Short (shL N) := short_shL fun k hk => by have := gN.few k hk; omega
  have hshM : Short (shL M) := short_shL fun k hk => by have := gM.few k hk; omega
  obtain ⟨l1, l2, l3, l4, -⟩ := (of_decide_eq_true hpl : PlanP p n h)
  have HVA := Lib.hid (fun (W : World) (hb : Below w.heap.size w W) => show Calls Tryd.prog 49 #[planV p n h] W (RetB (.bool true) W) from by have := valid_plan p n h W (hB.below hb hB.1); rw [hpl] at this; exact this)
  have HGN := Lib.hid (fun (W : World) (hb : Below w.heap.size w W) => show Calls Tryd.prog 55 #[planV p n h, .slice A N.length ca] W (RetB (.bool true) W) from by have := good_any p n h A ca (shL N) W (hA.below hb) hshN (by omega) (by rw [shL_len]; omega); rw [← gdB_yes (gd_back gN), shL_len] at this; exact this)
  have HGM := Lib.hid (fun (W : World) (hb : Below w.heap.size w W) => show Calls Tryd.prog 55 #[planV p n h, .slice B M.length cb] W (RetB (.bool true) W) from by have := good_any p n h B cb (shL M) W (hM.below hb) hshM (by omega) (by rw [shL_len]; omega); rw [← gdB_yes (gd_back gM), shL_len] at this; exact this)
  have HC := Lib.hid (fun (W : World) (hb : Below w.heap.size w W) (g z : Nat) (hc : W.cell? ⟨z, 0, none⟩ = some (.slice B M.length cb)) (hz : z < W.heap.size) (hf : W.cell? ⟨g, 0, none⟩ = some (.func (.func 57) #[] #[.pointer (some ⟨z, 0, none⟩)])) (hg : g < W.heap.size) =>
    show Calls Tryd.prog 60 #[.slice A N.length ca, .func (.func 61) #[] #[.pointer (some ⟨g, 0, none⟩)]] W (RetB (.bool (!apOk N M)) W) from by
      have := containsSh_any 61 #[.pointer (some ⟨g, 0, none⟩)] (fun k => !hasH M (hN N k)) A (shL N) ca W (hA.below hb) (by rw [shL_len]; omega) enter_ap2 (fun w' hb' k hk B' c' => by
        rw [shL_len] at hk
        have := ap2_any (hS (shL N) k) (.slice B' (vS (shL N) k).length c') B cb (shL M) g z w' (by rw [shL_len]; exact (hb'.cell hz).trans hc) (Nat.lt_of_lt_of_le hz hb'.size) ((hb'.cell hg).trans hf) (Nat.lt_of_lt_of_le hg hb'.size) (hM.below (below_trans hb hb')) (by rw [shL_len]; omega)
        rw [hS_shL hk, shL_len] at this
        rw [hS_shL hk]; exact this)
      rw [shL_len] at this
      unfold apOk
      rw [Bool.not_not]; exact this)
  have HBS := Lib.hid hB
  have HA := Lib.hid hA
  have HM := Lib.hid hM
  have HGDN := Lib.hid gN
  have HGDM := Lib.hid gM
  have HPL := Lib.hid hpl
  have HPV := Lib.hid hv
  clear hB hA hM gN gM hpl hv hshN hshM
  have he : apE N M = 5 := by unfold apE; rw [hno]; rfl
  have hL : apL p N M = [] := by unfold apL; rw [he]; rfl
  rw [hL, he]
  rw [hno] at HC
  clear he hL hno
  go_enter Tryd.func25, Tryd.ntmps25
  go_wp2_with fail
  refine gen_calls fun w1 hw1 => ?_
  have hpc1 : PlanCell w1 w.heap.size p n h := by rw [hw1]; exact (PlanCell.new _ _ _ rfl).alloc _
  have hz1 : w1.heap[w.heap.size + 1]? = some (.cells #[.slice B M.length cb] 31 (0, 0)) := by
    rw [hw1]
    have := heap_alloc_new (w.alloc (.cells #[.int .i64 (p : Int), .int .i64 (n : Int), .int .i64 (h : Int)] 28)) (.cells #[.slice B M.length cb] 31)
    rw [size_alloc] at this; exact this
  have hb1 : Below w.heap.size w w1 := by rw [hw1]; exact below_trans (below_alloc _ _) (below_alloc _ _)
  clear hw1
  refine ret_below (HVA.out _ hb1) fun w2 hb2 => ?_
  have hb2w := below_trans hb1 hb2
  have hpc2 := hpc1.below hb2
  have hlz1 := blk_lt hz1
  have hz2 := (hb2.block _ hlz1).trans hz1
  have p0 := hpc2.c0
  have p1 := hpc2.c1
  have p2 := hpc2.c2
  have z0 : w2.cell? ⟨w.heap.size + 1, 0, none⟩ = some (.slice B M.length cb) := by rw [cell_of_row w2 _ 0 _ _ (0, 0) hz2]; rfl
  clear hpc1 hz1 hb1 hb2
  go_wp2_with fail
  refine ret_below (HGN.out _ hb2w) fun w3 hb3 => ?_
  have hb3w := below_trans hb2w hb3
  have hpc3 := hpc2.below hb3
  have hlz2 := blk_lt hz2
  have hz3 := (hb3.block _ hlz2).trans hz2
  have p03 := hpc3.c0
  have p13 := hpc3.c1
  have p23 := hpc3.c2
  have z03 := (hb3.cell (p := ⟨w.heap.size + 1, 0, none⟩) hlz2).trans z0
  clear p0 p1 p2 z0 hpc2 hz2 hb2w hb3
  go_wp2_with fail
  refine ret_below (HGM.out _ hb3w) fun w4 hb4 => ?_
  have hb4w := below_trans hb3w hb4
  have hpc4 := hpc3.below hb4
  have hlz3 := blk_lt hz3
  have hz4 := (hb4.block _ hlz3).trans hz3
  have z04 := (hb4.cell (p := ⟨w.heap.size + 1, 0, none⟩) hlz3).trans z03
  have hlz4 := blk_lt hz4
  clear p03 p13 p23 z03 hpc3 hz3 hb3w hb4
  go_wp2_with fail
  refine gen_calls fun w5 hw5 => ?_
  have hf5 : w5.heap[w4.heap.size]? = some (.cells #[.func (.func 57) #[] #[.pointer (some ⟨w.heap.size + 1, 0, none⟩)]] 34 (0, 0)) := by
    rw [hw5]; exact heap_alloc_new w4 _
  have hb5 : Below w4.heap.size w4 w5 := by rw [hw5]; exact below_alloc _ _
  have hb5w := below_trans hb4w hb5
  clear hw5
  have hlf5 := blk_lt hf5
  have f5 : w5.cell? ⟨w4.heap.size, 0, none⟩ = some (.func (.func 57) #[] #[.pointer (some ⟨w.heap.size + 1, 0, none⟩)]) := by rw [cell_of_row w5 _ 0 _ _ (0, 0) hf5]; rfl
  have z05 := (hb5.cell (p := ⟨w.heap.size + 1, 0, none⟩) hlz4).trans z04
  have hpc5 := hpc4.below hb5
  have hlz5 : w.heap.size + 1 < w5.heap.size := Nat.lt_of_lt_of_le hlz4 hb5.size
  have hlp5 := hpc5.lt
  generalize w4.heap.size = pf at *
  refine ret_below (HC.out _ hb5w pf (w.heap.size + 1) z05 hlz5 f5 hlf5) fun w6 hb6 => ?_
  have hb6w := below_trans hb5w hb6
  have HP6 := Lib.hid (hpc5.below hb6)
  have z06 := (hb6.cell (p := ⟨w.heap.size + 1, 0, none⟩) hlz5).trans z05
  have f6 := (hb6.cell (p := ⟨pf, 0, none⟩) hlf5).trans f5
  have lz6 : w.heap.size + 1 < w6.heap.size := Nat.lt_of_lt_of_le hlz5 hb6.size
  have lf6 : pf < w6.heap.size := Nat.lt_of_lt_of_le hlf5 hb6.size
  have lp6 := HP6.out.lt
  clear hpc4 hpc5 hz4 z04 z05 f5 hf5 hb4w hb5 hb5w hb6 hlz5 hlf5 hlz4 hlz3 hlz2 hlz1 hlp5 HVA HGN HGM HC
  go_wp2_with fail
  go_ret2
  exact ShErr.nil _ hb6w

set_option maxRecDepth 100000 in
set_option maxHeartbeats 4000000 in
theorem apply_ok {P P' : Nat → Prop} (p n h : Nat) (A B : Option Addr) (ca cb kA kB : Nat) (N M : List ShN) (w : World) (hv : primeV p = validI p) (hB : Bases w) (hpl : plB p n h = true) (gN : GoodN p h N) (gM : GoodN p h M) (hA : ShP P w A ca (shL N)) (hM : ShP P' w B cb (shL M)) (hkA : kA = N.length) (hkB : kB = M.length) (hl : N.length ≤ 100000) (hl2 : M.length ≤ 100000) (hno : apOk N M = true) (hq : N.length = 0 ∨ (vN N 0).length = (vN M 0).length) :
    Calls Tryd.prog 25 #[planV p n h, .slice A kA ca, .slice B kB cb] w (ShErr (shL (apL p N M)) (apE N M) w) := by
  subst hkA hkB
  have hshN : Short (shL N) := short_shL fun k hk => by have := gN.few k hk; omega
  have hshM : Short (shL M) := short_shL fun k hk => by have := gM.few k hk; omega
  obtain ⟨l1, l2, l3, l4, -⟩ := (of_decide_eq_true hpl : PlanP p n h)
  have HVA := Lib.hid (fun (W : World) (hb : Below w.heap.size w W) => show Calls Tryd.prog 49 #[planV p n h] W (RetB (.bool true) W) from by have := valid_plan p n h W (hB.below hb hB.1); rw [hpl] at this; exact this)
  have HGN := Lib.hid (fun (W : World) (hb : Below w.heap.size w W) => show Calls Tryd.prog 55 #[planV p n h, .slice A N.length ca] W (RetB (.bool true) W) from by have := good_any p n h A ca (shL N) W (hA.below hb) hshN (by omega) (by rw [shL_len]; omega); rw [← gdB_yes (gd_back gN), shL_len] at this; exact this)
  have HGM := Lib.hid (fun (W : World) (hb : Below w.heap.size w W) => show Calls Tryd.prog 55 #[planV p n h, .slice B M.length cb] W (RetB (.bool true) W) from by have := good_any p n h B cb (shL M) W (hM.below hb) hshM (by omega) (by rw [shL_len]; omega); rw [← gdB_yes (gd_back gM), shL_len] at this; exact this)
  have HC := Lib.hid (fun (W : World) (hb : Below w.heap.size w W) (g z : Nat) (hc : W.cell? ⟨z, 0, none⟩ = some (.slice B M.length cb)) (hz : z < W.heap.size) (hf : W.cell? ⟨g, 0, none⟩ = some (.func (.func 57) #[] #[.pointer (some ⟨z, 0, none⟩)])) (hg : g < W.heap.size) =>
    show Calls Tryd.prog 60 #[.slice A N.length ca, .func (.func 61) #[] #[.pointer (some ⟨g, 0, none⟩)]] W (RetB (.bool (!apOk N M)) W) from by
      have := containsSh_any 61 #[.pointer (some ⟨g, 0, none⟩)] (fun k => !hasH M (hN N k)) A (shL N) ca W (hA.below hb) (by rw [shL_len]; omega) enter_ap2 (fun w' hb' k hk B' c' => by
        rw [shL_len] at hk
        have := ap2_any (hS (shL N) k) (.slice B' (vS (shL N) k).length c') B cb (shL M) g z w' (by rw [shL_len]; exact (hb'.cell hz).trans hc) (Nat.lt_of_lt_of_le hz hb'.size) ((hb'.cell hg).trans hf) (Nat.lt_of_lt_of_le hg hb'.size) (hM.below (below_trans hb hb')) (by rw [shL_len]; omega)
        rw [hS_shL hk, shL_len] at this
        rw [hS_shL hk]; exact this)
      rw [shL_len] at this
      unfold apOk
      rw [Bool.not_not]; exact this)
  have HBS := Lib.hid hB
  have HA := Lib.hid hA
  have HM := Lib.hid hM
  have HGDN := Lib.hid gN
  have HGDM := Lib.hid gM
  have HPL := Lib.hid hpl
  have HPV := Lib.hid hv
  clear hB hA hM gN gM hpl hv hshN hshM
  have he : apE N M = 0 := by unfold apE; rw [if_pos hno, if_pos hq]
  have hL : apL p N M = apT p N M := by unfold apL; rw [if_pos he]
  rw [hL, he]
  rw [hno] at HC
  have HOK := Lib.hid hno
  have HQ := Lib.hid hq
  clear he hL hno hq
  go_enter Tryd.func25, Tryd.ntmps25
  go_wp2_with fail
  refine gen_calls fun w1 hw1 => ?_
  have hpc1 : PlanCell w1 w.heap.size p n h := by rw [hw1]; exact (PlanCell.new _ _ _ rfl).alloc _
  have hz1 : w1.heap[w.heap.size + 1]? = some (.cells #[.slice B M.length cb] 31 (0, 0)) := by
    rw [hw1]
    have := heap_alloc_new (w.alloc (.cells #[.int .i64 (p : Int), .int .i64 (n : Int), .int .i64 (h : Int)] 28)) (.cells #[.slice B M.length cb] 31)
    rw [size_alloc] at this; exact this
  have hb1 : Below w.heap.size w w1 := by rw [hw1]; exact below_trans (below_alloc _ _) (below_alloc _ _)
  clear hw1
  refine ret_below (HVA.out _ hb1) fun w2 hb2 => ?_
  have hb2w := below_trans hb1 hb2
  have hpc2 := hpc1.below hb2
  have hlz1 := blk_lt hz1
  have hz2 := (hb2.block _ hlz1).trans hz1
  have p0 := hpc2.c0
  have p1 := hpc2.c1
  have p2 := hpc2.c2
  have z0 : w2.cell? ⟨w.heap.size + 1, 0, none⟩ = some (.slice B M.length cb) := by rw [cell_of_row w2 _ 0 _ _ (0, 0) hz2]; rfl
  clear hpc1 hz1 hb1 hb2
  go_wp2_with fail
  refine ret_below (HGN.out _ hb2w) fun w3 hb3 => ?_
  have hb3w := below_trans hb2w hb3
  have hpc3 := hpc2.below hb3
  have hlz2 := blk_lt hz2
  have hz3 := (hb3.block _ hlz2).trans hz2
  have p03 := hpc3.c0
  have p13 := hpc3.c1
  have p23 := hpc3.c2
  have z03 := (hb3.cell (p := ⟨w.heap.size + 1, 0, none⟩) hlz2).trans z0
  clear p0 p1 p2 z0 hpc2 hz2 hb2w hb3
  go_wp2_with fail
  refine ret_below (HGM.out _ hb3w) fun w4 hb4 => ?_
  have hb4w := below_trans hb3w hb4
  have hpc4 := hpc3.below hb4
  have hlz3 := blk_lt hz3
  have hz4 := (hb4.block _ hlz3).trans hz3
  have z04 := (hb4.cell (p := ⟨w.heap.size + 1, 0, none⟩) hlz3).trans z03
  have hlz4 := blk_lt hz4
  clear p03 p13 p23 z03 hpc3 hz3 hb3w hb4
  go_wp2_with fail
  refine gen_calls fun w5 hw5 => ?_
  have hf5 : w5.heap[w4.heap.size]? = some (.cells #[.func (.func 57) #[] #[.pointer (some ⟨w.heap.size + 1, 0, none⟩)]] 34 (0, 0)) := by
    rw [hw5]; exact heap_alloc_new w4 _
  have hb5 : Below w4.heap.size w4 w5 := by rw [hw5]; exact below_alloc _ _
  have hb5w := below_trans hb4w hb5
  clear hw5
  have hlf5 := blk_lt hf5
  have f5 : w5.cell? ⟨w4.heap.size, 0, none⟩ = some (.func (.func 57) #[] #[.pointer (some ⟨w.heap.size + 1, 0, none⟩)]) := by rw [cell_of_row w5 _ 0 _ _ (0, 0) hf5]; rfl
  have z05 := (hb5.cell (p := ⟨w.heap.size + 1, 0, none⟩) hlz4).trans z04
  have hpc5 := hpc4.below hb5
  have hlz5 : w.heap.size + 1 < w5.heap.size := Nat.lt_of_lt_of_le hlz4 hb5.size
  have hlp5 := hpc5.lt
  generalize w4.heap.size = pf at *
  refine ret_below (HC.out _ hb5w pf (w.heap.size + 1) z05 hlz5 f5 hlf5) fun w6 hb6 => ?_
  have hb6w := below_trans hb5w hb6
  have HP6 := Lib.hid (hpc5.below hb6)
  have z06 := (hb6.cell (p := ⟨w.heap.size + 1, 0, none⟩) hlz5).trans z05
  have f6 := (hb6.cell (p := ⟨pf, 0, none⟩) hlf5).trans f5
  have lz6 : w.heap.size + 1 < w6.heap.size := Nat.lt_of_lt_of_le hlz5 hb6.size
  have lf6 : pf < w6.heap.size := Nat.lt_of_lt_of_le hlf5 hb6.size
  have lp6 := HP6.out.lt
  clear hpc4 hpc5 hz4 z04 z05 f5 hf5 hb4w hb5 hb5w hb6 hlz5 hlf5 hlz4 hlz3 hlz2 hlz1 hlp5 HVA HGN HGM HC
  have b0 : 1 ≤ p := by omega
  have b1 : p ≤ 1073741824 := by
    obtain ⟨q, hq, -, hq2⟩ := plan_prime (of_decide_eq_true HPL.out) HPV.out
    omega
  go_wp2_with fail
  go_loopw [9, 35] (fun o i wr => ∃ k : Nat, k ≤ N.length ∧ i = .int .i64 k ∧ RowsV (fun b => w6.heap.size ≤ b) wr w6.heap.size o (shL ((apT p N M).take k)) ∧ Below w6.heap.size w6 wr) (fun _ i _ => N.length - (intOf i).toNat)
  case atStart => exact ⟨0, Nat.zero_le _, rfl, RowsV.nil _ _ _, Below.refl _ _⟩
  case round =>
    obtain ⟨k, hk, rfl, hR, hbr⟩ := hrel
    obtain ⟨OA, oc, hv, hRd⟩ := hR.read
    have hlk : (shL ((apT p N M).take k)).length = k := by rw [shL_len, List.length_take, apT_len]; omega
    rw [hlk] at hv
    subst hv
    have hsz := hbr.size
    have hbw := below_trans hb6w hbr
    have HR := Lib.hid hR
    have HLK := Lib.hid hlk
    have HRd := Lib.hid hRd
    clear hR hlk hRd
    by_cases hlt : k < N.length
    · obtain ⟨b1', o1, B1, c1, rfl, hb1, -, x0, x1, hX, -⟩ := (HA.out.below hbw).nat hlt
      have hh := apOk_at HOK.out hlt
      obtain ⟨-, hj, hjx⟩ := apI_at hh
      obtain ⟨b2, o2, B2, c2, rfl, hb2, -, u0, u1, hU, -⟩ := (HM.out.below hbw).nat hj
      have HTK := Lib.hid (apT_take (p := p) (M := M) hlt)
      obtain ⟨hx1, hx2, hLp⟩ := HGDN.out.rng k hlt
      have hl0 := HGDN.out.len k hlt
      have hlf := HGDN.out.few k hlt
      obtain ⟨-, -, hKp⟩ := HGDM.out.rng _ hj
      have hk0 := HGDM.out.len _ hj
      have hkf := HGDM.out.few _ hj
      have HLEN := Lib.hid (And.intro hl0 hk0)
      rw [hjx] at u0
      generalize hjd : apI M (hN N k) = j at *
      generalize hL : vN N k = L at *
      generalize hK : vN M j = K at *
      generalize hx : hN N k = x at *
      have HLP := Lib.hid hLp
      have HKP := Lib.hid hKp
      have HH := Lib.hid hh
      have HJD := Lib.hid hjd
      have hjI : (0 : Int) ≤ (j : Int) := by omega
      have hjM : (j : Int) < (M.length : Int) := by omega
      have HKL := Lib.hid (show K.length = L.length from (by rcases HQ.out with h0 | h0 <;> omega))
      have hq6 := HP6.out.keep (hbr.block w.heap.size lp6)
      have hP0 := hq6.c0
      have hP1 := hq6.c1
      have hP2 := hq6.c2
      have hzr := (hbr.cell (p := ⟨w.heap.size + 1, 0, none⟩) lz6).trans z06
      have hfr := (hbr.cell (p := ⟨pf, 0, none⟩) lf6).trans f6
      have lpr : w.heap.size < wr.heap.size := by omega
      have lzr : w.heap.size + 1 < wr.heap.size := by omega
      have lfr : pf < wr.heap.size := by omega
      clear hjx hLp hKp hh hjd hL hK hx hl0 hk0 hj hq6
      go_wp2_with fail
      refine gen_world fun w7 hw7 => ?_
      have hsc : ShCell w7 wr.heap.size x (.slice B1 L.length c1) := by rw [hw7]; exact ShCell.new _ _ rfl
      have hb7 : Below wr.heap.size wr w7 := by rw [hw7]; exact below_alloc _ _
      have hb7z := hb7.size
      have hs7 : w6.heap.size ≤ w7.heap.size := by omega
      have hbw7 := below_trans hbw hb7
      have v0 := hsc.c0
      have v1 := hsc.c1
      have lg7 := hsc.lt
      have lp7 : w.heap.size < w7.heap.size := by omega
      have lz7 : w.heap.size + 1 < w7.heap.size := by omega
      have lf7 : pf < w7.heap.size := by omega
      have lb7 : b2 < w7.heap.size := by omega
      have y0 := (hb7.cell (p := ⟨w.heap.size, 0, none⟩) lpr).trans hP0
      have y1 := (hb7.cell (p := ⟨w.heap.size, 1, none⟩) lpr).trans hP1
      have y2 := (hb7.cell (p := ⟨w.heap.size, 2, none⟩) lpr).trans hP2
      have yz := (hb7.cell (p := ⟨w.heap.size + 1, 0, none⟩) lzr).trans hzr
      have yf := (hb7.cell (p := ⟨pf, 0, none⟩) lfr).trans hfr
      have u0 := (hb7.cell (p := ⟨b2, o2 + j * 2, none⟩) hb2).trans u0
      have u1 := (hb7.cell (p := ⟨b2, o2 + j * 2 + 1, none⟩) hb2).trans u1
      have HX7 := Lib.hid (hX.below hb7)
      have HU7 := Lib.hid (hU.below hb7)
      have HR7 := Lib.hid (HR.out.below hb7)
      have HAP := Lib.hid (fun (W : World) (hb : Below w7.heap.size w7 W) => ap1_at x (some ⟨b2, o2, none⟩) cb j M (w.heap.size + 1) W ((hb.cell (p := ⟨w.heap.size + 1, 0, none⟩) lz7).trans yz) (Nat.lt_of_lt_of_le lz7 hb.size) (HM.out.below (below_trans hbw7 hb)) (by omega) HH.out HJD.out)
      clear hw7 hsc hP0 hP1 hP2 hzr hfr x0 x1 hX hU
      go_region_held3 (fun w' => w'.cell? ⟨w.heap.size, 0, none⟩ = some (.int .i64 (p : Int)) ∧ w'.cell? ⟨w.heap.size, 1, none⟩ = some (.int .i64 (n : Int)) ∧ w'.cell? ⟨w.heap.size, 2, none⟩ = some (.int .i64 (h : Int)) ∧ w'.cell? ⟨w.heap.size + 1, 0, none⟩ = some (.slice (some ⟨b2, o2, none⟩) M.length cb) ∧ w'.cell? ⟨pf, 0, none⟩ = some (.func (.func 57) #[] #[.pointer (some ⟨w.heap.size + 1, 0, none⟩)]) ∧ w'.cell? ⟨wr.heap.size, 0, none⟩ = some (.int .i64 (x : Int)) ∧ w'.cell? ⟨wr.heap.size, 1, none⟩ = some (.slice B1 L.length c1) ∧ w'.cell? ⟨b2, o2 + j * 2, none⟩ = some (.int .i64 (x : Int)) ∧ w'.cell? ⟨b2, o2 + j * 2 + 1, none⟩ = some (.slice B2 K.length c2)) (first | (go_keep; done) | (exact ⟨keep_set2 (by dsimp only; omega) t0, keep_set2 (by dsimp only; omega) t1, keep_set2 (by dsimp only; omega) t2, keep_set2 (by dsimp only; omega) t3, keep_set2 (by dsimp only; omega) t4, keep_set2 (by dsimp only; omega) t5, keep_set2 (by dsimp only; omega) t6, keep_set2 (by dsimp only; omega) t7, keep_set2 (by dsimp only; omega) t8⟩))
        (first
          | (go_at_call 57; refine ret_below (HAP.out _ (by (repeat (first | exact bl_refl _ | apply bl_drew | apply bl_alloc)))) ?_; intro w8 hb8; (first
              | (have hb8' : Below w7.heap.size w7 w8 := below_undrew1 hb8)
              | (have hb8A : Below (w7.alloc shO).heap.size (w7.alloc shO) w8 := below_undrew1 hb8; have hb8' : Below w7.heap.size w7 w8 := below_trans (below_alloc _ _) hb8A; have HRz := Lib.hid ((ShCell.new (w := w7) 0 (.slice none 0 0) rfl).below hb8A); have fz0 := HRz.out.frozen 0; have fz1 := HRz.out.frozen 1; have rz0 := HRz.out.c0; have rz1 := HRz.out.c1)); have zd := hb8'.size; have s0 := (hb8'.cell (p := ⟨w.heap.size, 0, none⟩) lp7).trans y0; have s1 := (hb8'.cell (p := ⟨w.heap.size, 1, none⟩) lp7).trans y1; have s2 := (hb8'.cell (p := ⟨w.heap.size, 2, none⟩) lp7).trans y2; have s3 := (hb8'.cell (p := ⟨w.heap.size + 1, 0, none⟩) lz7).trans yz; have s4 := (hb8'.cell (p := ⟨pf, 0, none⟩) lf7).trans yf; have s5 := (hb8'.cell (p := ⟨wr.heap.size, 0, none⟩) lg7).trans v0; have s6 := (hb8'.cell (p := ⟨wr.heap.size, 1, none⟩) lg7).trans v1; have s7 := (hb8'.cell (p := ⟨b2, o2 + j * 2, none⟩) lb7).trans u0; have s8 := (hb8'.cell (p := ⟨b2, o2 + j * 2 + 1, none⟩) lb7).trans u1)
          | (go_at_call 62; refine (add_two p n h x B1 B2 L K c1 c2 _ _ _ b0 (by omega) HPV.out (HBS.out.below (below_trans hbw7 (by (repeat (first | exact bl_refl _ | exact hb8' | apply bl_drew | apply bl_alloc)))) HBS.out.1) HPL.out (by omega) (by omega) rfl rfl HKL.out HLP.out HKP.out (HX7.out.below (by (repeat (first | exact bl_refl _ | exact hb8' | apply bl_drew | apply bl_alloc)))) (HU7.out.below (by (repeat (first | exact bl_refl _ | exact hb8' | apply bl_drew | apply bl_alloc)))) (by omega)).mono ?_; rintro e w9 ⟨SAe, sce, rfl, hSe, hOKe, hOffe, hbe⟩; (first
              | (have HZ := HRz; have hbe' : Below w7.heap.size w7 w9 := below_trans hb8' hbe; have HRy := Lib.hid (HRz.out.below hbe); have fy0 := HRy.out.frozen 0; have fy1 := HRy.out.frozen 1; have ry0 := HRy.out.c0; have ry1 := HRy.out.c1)
              | (have hbeA : Below (w8.alloc shO).heap.size (w8.alloc shO) w9 := hbe; have hbe' : Below w7.heap.size w7 w9 := below_trans hb8' (below_trans (below_alloc _ _) hbeA); have HRy := Lib.hid ((ShCell.new (w := w8) 0 (.slice none 0 0) rfl).below hbeA); have fy0 := HRy.out.frozen 0; have fy1 := HRy.out.frozen 1; have ry0 := HRy.out.c0; have ry1 := HRy.out.c1)
              | (have hbe' : Below w7.heap.size w7 w9 := below_trans hb8' hbe)); have t0 := (hbe'.cell (p := ⟨w.heap.size, 0, none⟩) lp7).trans y0; have t1 := (hbe'.cell (p := ⟨w.heap.size, 1, none⟩) lp7).trans y1; have t2 := (hbe'.cell (p := ⟨w.heap.size, 2, none⟩) lp7).trans y2; have t3 := (hbe'.cell (p := ⟨w.heap.size + 1, 0, none⟩) lz7).trans yz; have t4 := (hbe'.cell (p := ⟨pf, 0, none⟩) lf7).trans yf; have t5 := (hbe'.cell (p := ⟨wr.heap.size, 0, none⟩) lg7).trans v0; have t6 := (hbe'.cell (p := ⟨wr.heap.size, 1, none⟩) lg7).trans v1; have t7 := (hbe'.cell (p := ⟨b2, o2 + j * 2, none⟩) lb7).trans u0; have t8 := (hbe'.cell (p := ⟨b2, o2 + j * 2 + 1, none⟩) lb7).trans u1))
      all_goals refine gen_last fun wf hwf => ?_
      · have hN9 : ShNew w7 wf w9.heap.size x SAe sce (linN p L K 1) := hwf ▸ ShNew.late hbe' hSe hOKe (fun b off e => by have := hOffe b off e; omega)
        obtain ⟨g, hg⟩ : ∃ g, g = w9.heap.size := ⟨_, rfl⟩
        rw [← hg] at hN9 ⊢
        clear hg hwf
        have g0 := hN9.cell.c0
        have g1 := hN9.cell.c1
        have lg := hN9.cell.lt
        have HN9 := Lib.hid hN9
        have hz9 := hN9.below.size
        obtain ⟨W, hW⟩ : ∃ W, W = wf.alloc (.cells #[.int .i64 (x : Int), .slice SAe (linN p L K 1).length sce] 53) := ⟨_, rfl⟩
        have hbW : Below w7.heap.size w7 W := by rw [hW]; exact bl_alloc _ hN9.below
        have hWz : wf.heap.size ≤ W.heap.size := by rw [hW]; exact (below_alloc _ _).size
        obtain ⟨H, e1, e2, e3⟩ := (HR7.out.below hbW).ex
        have HE3 := Lib.hid (And.intro e1 (And.intro e2 e3))
        have hHl : H.length ≤ 100000 := by rw [e2, HLK.out]; omega
        clear e2 e3 hN9 hOffe hSe hOKe
        subst hW
        go_wp2_with (at_builtin; refine app_hv rfl (.tmp 54) (.tmp 56) rfl (base := w6.heap.size) (H := H) (v := .slice OA k oc) ((x : Int), .slice SAe (linN p L K 1).length sce) rfl e1 rfl (heap_alloc_new _ _) rfl (by omega) (by omega) ?_; intro v4 wg hown4 hg4 hb4 hv4)
        have HB4 := Lib.hid ((hbr.trans (hb7.mono hsz)).trans ((hbW.mono hs7).trans hb4))
        have HR4 := Lib.hid (RowsV.put HR7.out HN9.out hs7 rfl HE3.out hown4 hg4 hv4 HTK.out)
        clear hown4 hg4 hv4 e1
        go_roundw
        case rel => exact ⟨k + 1, by omega, by go_num, HR4.out, HB4.out⟩
        case measure => simp [intOf]; omega
      · have hN9 : ShNew w7 wf w8.heap.size x SAe sce (linN p L K 1) := hwf ▸ ShNew.early (ShCell.new (w := w8) 0 (.slice none 0 0) rfl) zd (bl_alloc _ hb8') hbe hSe hOKe hOffe
        obtain ⟨g, hg⟩ : ∃ g, g = w8.heap.size := ⟨_, rfl⟩
        rw [← hg] at hN9 ⊢
        clear hg hwf
        have g0 := hN9.cell.c0
        have g1 := hN9.cell.c1
        have lg := hN9.cell.lt
        have HN9 := Lib.hid hN9
        have hz9 := hN9.below.size
        obtain ⟨W, hW⟩ : ∃ W, W = wf.alloc (.cells #[.int .i64 (x : Int), .slice SAe (linN p L K 1).length sce] 53) := ⟨_, rfl⟩
        have hbW : Below w7.heap.size w7 W := by rw [hW]; exact bl_alloc _ hN9.below
        have hWz : wf.heap.size ≤ W.heap.size := by rw [hW]; exact (below_alloc _ _).size
        obtain ⟨H, e1, e2, e3⟩ := (HR7.out.below hbW).ex
        have HE3 := Lib.hid (And.intro e1 (And.intro e2 e3))
        have hHl : H.length ≤ 100000 := by rw [e2, HLK.out]; omega
        clear e2 e3 hN9 hOffe hSe hOKe
        subst hW
        go_wp2_with (at_builtin; refine app_hv rfl (.tmp 54) (.tmp 56) rfl (base := w6.heap.size) (H := H) (v := .slice OA k oc) ((x : Int), .slice SAe (linN p L K 1).length sce) rfl e1 rfl (heap_alloc_new _ _) rfl (by omega) (by omega) ?_; intro v4 wg hown4 hg4 hb4 hv4)
        have HB4 := Lib.hid ((hbr.trans (hb7.mono hsz)).trans ((hbW.mono hs7).trans hb4))
        have HR4 := Lib.hid (RowsV.put HR7.out HN9.out hs7 rfl HE3.out hown4 hg4 hv4 HTK.out)
        clear hown4 hg4 hv4 e1
        go_roundw
        case rel => exact ⟨k + 1, by omega, by go_num, HR4.out, HB4.out⟩
        case measure => simp [intOf]; omega
      · have hN9 : ShNew w7 wf w7.heap.size x SAe sce (linN p L K 1) := hwf ▸ ShNew.early HRz.out (Nat.le_refl _) hb8' hbe hSe hOKe hOffe
        obtain ⟨g, hg⟩ : ∃ g, g = w7.heap.size := ⟨_, rfl⟩
        rw [← hg] at hN9 ⊢
        clear hg hwf
        have g0 := hN9.cell.c0
        have g1 := hN9.cell.c1
        have lg := hN9.cell.lt
        have HN9 := Lib.hid hN9
        have hz9 := hN9.below.size
        obtain ⟨W, hW⟩ : ∃ W, W = wf.alloc (.cells #[.int .i64 (x : Int), .slice SAe (linN p L K 1).length sce] 53) := ⟨_, rfl⟩
        have hbW : Below w7.heap.size w7 W := by rw [hW]; exact bl_alloc _ hN9.below
        have hWz : wf.heap.size ≤ W.heap.size := by rw [hW]; exact (below_alloc _ _).size
        obtain ⟨H, e1, e2, e3⟩ := (HR7.out.below hbW).ex
        have HE3 := Lib.hid (And.intro e1 (And.intro e2 e3))
        have hHl : H.length ≤ 100000 := by rw [e2, HLK.out]; omega
        clear e2 e3 hN9 hOffe hSe hOKe
        subst hW
        go_wp2_with (at_builtin; refine app_hv rfl (.tmp 54) (.tmp 56) rfl (base := w6.heap.size) (H := H) (v := .slice OA k oc) ((x : Int), .slice SAe (linN p L K 1).length sce) rfl e1 rfl (heap_alloc_new _ _) rfl (by omega) (by omega) ?_; intro v4 wg hown4 hg4 hb4 hv4)
        have HB4 := Lib.hid ((hbr.trans (hb7.mono hsz)).trans ((hbW.mono hs7).trans hb4))
        have HR4 := Lib.hid (RowsV.put HR7.out HN9.out hs7 rfl HE3.out hown4 hg4 hv4 HTK.out)
        clear hown4 hg4 hv4 e1
        go_roundw
        case rel => exact ⟨k + 1, by omega, by go_num, HR4.out, HB4.out⟩
        case measure => simp [intOf]; omega
    · obtain rfl : k = N.length := by omega
      have hX := HRd.out
      rw [List.take_of_length_le (by rw [apT_len]; exact Nat.le_refl _)] at hX
      have hz6 := hb6w.size
      have HX := Lib.hid (hX.mono (Q := fun b => w.heap.size ≤ b) (fun b _ hb => by omega))
      clear hX
      go_wp2_with fail
      go_ret2
      exact ⟨OA, oc, by { have e := (shL_len (apT p N M)).trans (apT_len p N M); rw [e]; first | done | rfl }, HX.out, hbw⟩
end Go.Proofs.YtlhipgejiacklaaDoor
namespace Go.Proofs.YtlhipgejiacklaaDoor
open Go.RowKit

theorem run_make_int (n : Nat) (w : World) (h : n ≤ 1099511627776) : (Instr.makeSlice 22 (.int .i64 (n : Int)) (.int .i64 (n : Int))).run Tryd.prog w = .ok (.slice (some ⟨w.heap.size, 0, none⟩) n n) (w.alloc (.cells (Array.replicate n (.int .i64 0)) 3)) := by
  obtain ⟨i, hi, hz0, hz1, hz2⟩ := info_parts info_int
  have := run_make (P := Tryd.prog) w 22 3 i _ Tryd.underlying22 hi hz0 .i64 .i64 n n (by omega) (Int.le_refl _) (by rw [hz2]; omega) (by omega)
  have e : madeCells (Value.int .i64 0).cells (n * i.size) = Array.replicate n (.int .i64 0) := by
    rw [hz1, Nat.mul_one, ← Array.toList_inj, show (Value.int .i64 0).cells = #[Value.int .i64 0] from rfl, toList_madeCells_one]; simp
  rw [Int.toNat_natCast, e] at this
  exact this
theorem nat_blk0 (w : World) (n : Nat) : NatBlk (w.alloc (.cells (Array.replicate n (.int .i64 0)) 3)) w.heap.size (List.replicate n 0) := by
  have := heap_alloc_new w (.cells (Array.replicate n (.int .i64 0)) 3)
  unfold NatBlk
  rw [this]
  congr 2
  rw [← Array.toList_inj]; simp [valsN]
theorem ShErr.up {S : List Shr} {er : Int} {w w' : World} {e : Ending} {w2 : World} (h : ShErr S er w' e w2) (hb : Below w.heap.size w w') : ShErr S er w e w2 := by
  obtain ⟨A, c, rfl, h1, h2⟩ := h
  have := hb.size
  exact ⟨A, c, rfl, h1.mono (fun b _ hb => by omega), below_trans hb h2⟩

attribute [local go_sem high] run_make_int
set_option maxRecDepth 100000 in
set_option maxHeartbeats 4000000 in
theorem zero_deal (p n h m : Nat) (P : PlanN p n h) (hm : m ≤ 2048) (B : Option Addr) (cb : Nat) (ran : List Int) (w : World) (hB : Bases w) (hR : IntsAt w B ran) (hok : IOK B cb ran.length) (hl : ran.length ≤ 1048576) :
    Calls Tryd.prog 20 #[planV p n h, .int .i64 (m : Int), .slice B ran.length cb] w (ShErr (shL (dlL p n h (ofN (List.replicate m 0)) ran)) (dlE p n h (ofN (List.replicate m 0)) ran) w) := by
  have HVA := Lib.hid (fun (W : World) (hb : Below w.heap.size w W) => show Calls Tryd.prog 49 #[planV p n h] W (RetB (.bool true) W) from by have := valid_plan p n h W (hB.below hb hB.1); rw [P.pl] at this; exact this)
  have HDL := Lib.hid (fun (W : World) (g : Nat) (hb : Below w.heap.size w W) (hg : NatBlk W g (List.replicate m 0)) => show Calls Tryd.prog 50 #[planV p n h, .slice (some ⟨g, 0, none⟩) m m, .slice B ran.length cb] W (ShErr (shL (dlL p n h (ofN (List.replicate m 0)) ran)) (dlE p n h (ofN (List.replicate m 0)) ran) W) from by
    have := dealS_any p n h (some ⟨g, 0, none⟩) B m cb (ofN (List.replicate m 0)) ran W P.pv (hB.below hb hB.1) hg.nats.ints (fun k hk => (hR.keep (P := fun _ => True) (fun _ _ _ => .inr trivial) ⟨hb.size, fun b _ hlt => hb.block b hlt⟩) k hk) hok (by rw [len_ofN, List.length_replicate]; omega) hl
    rw [len_ofN, List.length_replicate] at this
    exact this)
  have e1 : decide (2048 < (m : Int)) = false := decide_eq_false (by omega)
  have e2 : decide ((m : Int) < 0) = false := decide_eq_false (by omega)
  have hmk : m ≤ 1099511627776 := by omega
  clear hR hB P
  go_enter Tryd.func20, Tryd.ntmps20
  go_wp2_with fail
  refine ret_below (HVA.out _ (below_alloc _ _)) fun w2 hb2 => ?_
  have hpc2 := (PlanCell.new (w := w) p n h rfl).below hb2
  have hb2w := below_trans (below_alloc _ _) hb2
  have p0 := hpc2.c0
  have p1 := hpc2.c1
  have p2 := hpc2.c2
  have lp := hpc2.lt
  clear hb2 hpc2
  go_wp2_with fail
  go_region_held3 (fun w' => w'.cell? ⟨w.heap.size, 0, none⟩ = some (.int .i64 (p : Int)) ∧ w'.cell? ⟨w.heap.size, 1, none⟩ = some (.int .i64 (n : Int)) ∧ w'.cell? ⟨w.heap.size, 2, none⟩ = some (.int .i64 (h : Int))) (first | go_keep)
    ((go_at_call 50; refine (HDL.out _ w2.heap.size (below_trans hb2w (bl_drew (bl_alloc _ (bl_refl _)))) (by exact nat_blk0 w2 m)).mono ?_; intro e w3 he; obtain ⟨NA, nc, rfl, hN, hb3⟩ := he; have hb3' : Below (w2.alloc (.cells (Array.replicate m (.int .i64 0)) 3)).heap.size (w2.alloc (.cells (Array.replicate m (.int .i64 0)) 3)) w3 := below_undrew1 hb3; have hb23 := below_trans (below_alloc w2 (.cells (Array.replicate m (.int .i64 0)) 3)) hb3'; have q0 := (hb23.cell (p := ⟨w.heap.size, 0, none⟩) lp).trans p0; have q1 := (hb23.cell (p := ⟨w.heap.size, 1, none⟩) lp).trans p1; have q2 := (hb23.cell (p := ⟨w.heap.size, 2, none⟩) lp).trans p2))
  have hz2 := hb2w.size
  have HX := Lib.hid (hN.mono (Q := fun b => w.heap.size ≤ b) (fun b _ hb => by rw [World.size_drew, size_alloc] at hb; omega))
  have HBB := Lib.hid (below_trans hb2w hb23)
  clear hN hb3 hb3' hb23
  go_wp2_with fail
  go_ret2
  exact ⟨NA, nc, rfl, HX.out, HBB.out⟩
end Go.Proofs.YtlhipgejiacklaaDoor
namespace Go.Proofs.YtlhipgejiacklaaDoor
open Go.RowKit

theorem dlE_made {p n h m : Nat} {ran : List Nat} (P : PlanN p n h) (hm : m ≤ 2048) (hr : ∀ x ∈ ran, x < p) (hl : ran.length = m * (n - 1)) :
    dlE p n h (ofN (List.replicate m 0)) (ofN ran) = 0 ∧ dlL p n h (ofN (List.replicate m 0)) (ofN ran) = dealN p n h (List.replicate m 0) ran :=
  dl_nats P.pl (by rw [List.length_replicate]; exact hm) (fun x hx => by rw [(List.mem_replicate.1 hx).2]; have := P.p1; omega) hr (by rw [List.length_replicate]; exact hl)
theorem zero_made (p n h m j : Nat) (P : PlanN p n h) (hm : m ≤ 2048) (B : Option Addr) (cb : Nat) (ran : List Nat) (w : World) (hB : Bases w) (hR : NatsAt w B ran) (hok : SlOK B cb ran) (hl2 : ran.length ≤ 1048576) (hr : ∀ x ∈ ran, x < p) (hl : ran.length = m * (n - 1)) (hj : j = ran.length) :
    Calls Tryd.prog 20 #[planV p n h, .int .i64 (m : Int), .slice B j cb] w (DealR (dealN p n h (List.replicate m 0) ran) h w) := by
  subst hj
  have := zero_deal p n h m P hm B cb (ofN ran) w hB hR.ints (by rw [len_ofN]; exact hok.iok) (by rw [len_ofN]; exact hl2)
  obtain ⟨e1, e2⟩ := dlE_made P hm hr hl
  rw [e1, e2, len_ofN] at this
  refine this.mono ?_
  rintro e w' ⟨A', c', rfl, h1, h2⟩
  exact ⟨A', c', by rw [shL_len, deal_len], h1, h2⟩

/-! ### Checks -/
def ordB (S : List Shr) : Bool := (List.range S.length).all fun k => hS S k == (k : Int) + 1
theorem ordB_yes {S : List Shr} (h : ∀ k, k < S.length → hS S k = (k : Int) + 1) : ordB S = true := by
  unfold ordB; rw [List.all_eq_true]; intro k hk; simpa using h k (List.mem_range.1 hk)
theorem ordB_no {S : List Shr} {k : Nat} (hk : k < S.length) (h : ¬ hS S k = (k : Int) + 1) : ordB S = false := by
  cases hb : ordB S with
  | false => rfl
  | true =>
    unfold ordB at hb
    rw [List.all_eq_true] at hb
    exact absurd (by simpa using hb k (List.mem_range.2 hk)) h
noncomputable def ckB (p n h : Int) (S : List Shr) : Bool := ftB p n h S && (decide ((S.length : Int) = h) && (ordB S && (decide (cmE p n h S = 0) && (cmL p n h S).all fun x => x == 0)))
theorem ckB_ft {p n h : Int} {S : List Shr} (H : ftB p n h S = false) : false = ckB p n h S := by unfold ckB; rw [H]; rfl
theorem ckB_len {p n h : Int} {S : List Shr} (H : ¬ (S.length : Int) = h) : false = ckB p n h S := by unfold ckB; rw [decide_eq_false H]; simp
theorem ckB_ord {p n h : Int} {S : List Shr} (H : ordB S = false) : false = ckB p n h S := by unfold ckB; rw [H]; simp
theorem ckB_err {p n h : Int} {S : List Shr} (H : ¬ cmE p n h S = 0) : false = ckB p n h S := by unfold ckB; rw [decide_eq_false H]; simp
theorem ckB_all {p n h : Int} {S : List Shr} (h1 : ftB p n h S = true) (h2 : (S.length : Int) = h) (h3 : ordB S = true) (h4 : cmE p n h S = 0) : ((cmL p n h S).all fun x => x == 0) = ckB p n h S := by
  unfold ckB; rw [h1, decide_eq_true h2, h3, decide_eq_true h4]; simp
theorem enter_ck1 (args : Array Value) (w : World) : (callFunc 54 args).run Tryd.prog w = .ok (.enter 54 args) w :=
  MuLone.run_callFunc_enter Tryd.func54 (by kernel_rfl) rfl args w
theorem ck1_any (x : Int) (w : World) : Calls Tryd.prog 54 #[.int .i64 x] w (RetB (.bool (x != 0)) w) := by
  go_enter Tryd.func54, Tryd.ntmps54
  go_wp2_with fail
  go_ret
  exact RetB.bool rfl (Below.refl _ _)
theorem any_ne (L : List Nat) : (!(ofN L).any fun x => x != 0) = L.all fun x => x == 0 := by
  induction L with
  | nil => rfl
  | cons x L ih =>
    simp only [ofN, List.map_cons, List.any_cons, List.all_cons, Bool.not_or] at ih ⊢
    rw [ih]
    congr 1
    rw [Bool.eq_iff_iff]; simp
theorem cmL_lenS {p n h : Int} {S : List Shr} (hsh : Short S) : (cmL p n h S).length ≤ 1048576 := by
  unfold cmL
  split
  · rw [combN_len]
    cases S with
    | nil => simp [natL, vN]
    | cons s S =>
      have := hsh 0 (by simp)
      simpa [natL, vN, natS, vS] using this
  · simp
set_option maxRecDepth 100000 in
set_option maxHeartbeats 4000000 in
theorem checks_any {P : Nat → Prop} (p n h : Int) (A : Option Addr) (c : Nat) (S : List Shr) (w : World) (hv : primeV p = validI p) (hB : Bases w) (hSh : ShP P w A c S) (hsh : Short S) (hl : S.length ≤ 100000) :
    Calls Tryd.prog 23 #[planV p n h, .slice A S.length c] w (RetB (.bool (ckB p n h S)) w) := by
  have HF := Lib.hid (fun (W : World) (hb : Below w.heap.size w W) => fits_any p n h A c S W hv (hB.below hb hB.1) (hSh.below hb) hsh (by omega))
  have HC := Lib.hid (fun (W : World) (hb : Below w.heap.size w W) => combine_any p n h A c S W hv (hB.below hb hB.1) (hSh.below hb) hsh (by omega))
  have HS := Lib.hid hSh
  have hbp := below_alloc w (.cells #[.int .i64 p, .int .i64 n, .int .i64 h] 28)
  have HCL := Lib.hid (cmL_lenS (p := p) (n := n) (h := h) hsh)
  clear hSh hB hsh hv
  cases hft : ftB p n h S with
  | false =>
    have HV := Lib.hid (ckB_ft hft)
    rw [hft] at HF
    clear hft
    go_enter Tryd.func23, Tryd.ntmps23
    go_wp2_with fail
    refine ret_below (HF.out _ hbp) fun w1 hb1 => ?_
    go_wp2_with fail
    go_ret
    exact RetB.bool HV.out (below_trans hbp hb1)
  | true =>
    rw [hft] at HF
    have HFT := Lib.hid hft
    clear hft
    by_cases hlen : (S.length : Int) = h
    · have t1 : ((S.length : Int) != h) = false := by simp [hlen]
      have HLEN := Lib.hid hlen
      clear hlen
      go_enter Tryd.func23, Tryd.ntmps23
      go_wp2_with fail
      refine ret_below (HF.out _ hbp) fun w1 hb1 => ?_
      have hbw1 := below_trans hbp hb1
      have HP := Lib.hid ((PlanCell.new (w := w) p n h rfl).below hb1)
      have p0 := HP.out.c0
      have p1 := HP.out.c1
      have p2 := HP.out.c2
      have lp := HP.out.lt
      clear hb1
      go_wp2_with fail
      go_loopw [22] (fun i wr => ∃ k : Nat, k ≤ S.length ∧ i = .int .i64 k ∧ (∀ j, j < k → hS S j = (j : Int) + 1) ∧ Below w1.heap.size w1 wr) (fun i _ => S.length - (intOf i).toNat)
      case atStart => exact ⟨0, Nat.zero_le _, rfl, fun j hj => absurd hj (by omega), Below.refl _ _⟩
      case round =>
        obtain ⟨k, hk, rfl, hpre, hbr⟩ := hrel
        have HPRE := Lib.hid hpre
        have hbw := below_trans hbw1 hbr
        have hq := HP.out.below hbr
        have q0 := hq.c0
        have q1 := hq.c1
        have q2 := hq.c2
        have lq := hq.lt
        clear hpre p0 p1 p2 hq
        by_cases hlt : k < S.length
        · obtain ⟨b, off, B, c', rfl, hbl, -, x0, x1, -⟩ := (HS.out.below hbw).at_ k hlt
          by_cases hx : hS S k = (k : Int) + 1
          · have HX := Lib.hid hx
            rw [hx] at x0
            have e1 : IntKind.i64.wrap ((k : Int) + 1) = (k : Int) + 1 := IntWalk.i64_in _ (by omega)
            clear hx
            go_wp2_with fail
            go_roundw
            case rel =>
              refine ⟨k + 1, by omega, by go_num, fun j hj => ?_, bl_alloc _ hbr⟩
              rcases Nat.lt_or_ge j k with h | h
              · exact HPRE.out j h
              · rw [show j = k by omega]; exact HX.out
            case measure => simp [intOf]; omega
          · have HV := Lib.hid (ckB_ord (p := p) (n := n) (h := h) (ordB_no hlt hx))
            have e1 : IntKind.i64.wrap ((k : Int) + 1) = (k : Int) + 1 := IntWalk.i64_in _ (by omega)
            have t2 : (hS S k != (k : Int) + 1) = true := by simp [hx]
            generalize hS S k = x at *
            clear hx
            go_wp2_with fail
            go_ret
            exact RetB.bool HV.out (bl_alloc _ hbw)
        · obtain rfl : k = S.length := by omega
          have HORD := Lib.hid (ordB_yes HPRE.out)
          by_cases hce : cmE p n h S = 0
          · have HCE := Lib.hid hce
            rw [hce] at HC
            clear hce
            go_wp2_with fail
            refine (HC.out _ hbw).mono ?_
            rintro e w3 ⟨XA, xc, rfl, hX, hXS, hXo, hb3⟩
            have HV := Lib.hid (any_ne (cmL p n h S) ▸ ckB_all HFT.out HLEN.out HORD.out HCE.out)
            have HCT := Lib.hid (containsInts_any 54 #[] (fun x => x != 0) XA (ofN (cmL p n h S)) xc w3 hX.ints (by rw [len_ofN]; have := HCL.out; omega) enter_ck1 (fun w' _ j _ => ck1_any _ w'))
            rw [len_ofN] at HCT
            clear hX hXS hXo
            go_wp2_with fail
            refine ret_below HCT.out fun w4 hb4 => ?_
            go_wp2_with fail
            go_ret
            exact RetB.bool HV.out (below_trans (below_trans hbw hb3) hb4)
          · have HV := Lib.hid (ckB_err hce)
            have t3 : (cmE p n h S == 0) = false := by simp [hce]
            generalize cmE p n h S = er at *
            clear hce
            go_wp2_with fail
            refine (HC.out _ hbw).mono ?_
            rintro e w3 ⟨XA, xc, rfl, hX, hXS, hXo, hb3⟩
            go_wp2_with fail
            go_ret
            exact RetB.bool HV.out (below_trans hbw hb3)
    · have HV := Lib.hid (ckB_len (p := p) (n := n) hlen)
      have t1 : ((S.length : Int) != h) = true := by simp [hlen]
      clear hlen
      go_enter Tryd.func23, Tryd.ntmps23
      go_wp2_with fail
      refine ret_below (HF.out _ hbp) fun w1 hb1 => ?_
      have HP := Lib.hid ((PlanCell.new (w := w) p n h rfl).below hb1)
      have p0 := HP.out.c0
      have p1 := HP.out.c1
      have p2 := HP.out.c2
      have lp := HP.out.lt
      go_wp2_with fail
      go_ret
      exact RetB.bool HV.out (below_trans hbp hb1)
end Go.Proofs.YtlhipgejiacklaaDoor
namespace Go.Proofs.YtlhipgejiacklaaDoor
open Go.RowKit

/-! ### Clones -/
theorem ShP.flat {P : Nat → Prop} {w : World} {a : Addr} {c : Nat} {S : List Shr} (h : ShP P w (some a) c S) : ∃ H : List HV, H.length = S.length ∧
    (∀ k, k < S.length → (hvAt H k).1 = hS S k ∧ ∃ B c', (hvAt H k).2 = .slice B (vS S k).length c' ∧ IntsP P w B c' (vS S k)) ∧ ∀ j u, (flatH H)[j]? = some u → w.cell? (a.add j) = some u := by
  have h1 : ∀ k, ∃ v, k < S.length → ∃ B c' b off, v = .slice B (vS S k).length c' ∧ IntsP P w B c' (vS S k) ∧ some a = some ⟨b, off, none⟩ ∧ w.cell? ⟨b, off + k * 2, none⟩ = some (.int .i64 (hS S k)) ∧ w.cell? ⟨b, off + k * 2 + 1, none⟩ = some v := fun k => by
    by_cases hk : k < S.length
    · obtain ⟨b, off, B, c', hA, -, -, x0, x1, x2⟩ := h.at_ k hk
      exact ⟨_, fun _ => ⟨B, c', b, off, rfl, x2, hA, x0, x1⟩⟩
    · exact ⟨.slice none 0 0, fun hk' => absurd hk' hk⟩
  obtain ⟨f, hf⟩ := Classical.axiomOfChoice h1
  have hat : ∀ k, k < S.length → hvAt ((List.range S.length).map fun k => (hS S k, f k)) k = (hS S k, f k) := fun k hk => by simp [hvAt, List.getD_eq_getElem?_getD, hk]
  refine ⟨(List.range S.length).map fun k => (hS S k, f k), by simp, fun k hk => ?_, fun j u hu => ?_⟩
  · obtain ⟨B, c', b, off, e1, e2, -⟩ := hf k hk
    rw [hat k hk]
    exact ⟨rfl, B, c', e1, e2⟩
  · have hj : j < S.length * 2 := by
      rcases Nat.lt_or_ge j (S.length * 2) with h2 | h2
      · exact h2
      · rw [List.getElem?_eq_none (by rw [flatH_len]; simpa using h2)] at hu; cases hu
    have hk : j / 2 < S.length := by omega
    obtain ⟨B, c', b, off, e1, e2, e3, e4, e5⟩ := hf (j / 2) hk
    obtain ⟨g1, g2⟩ := flatH_at ((List.range S.length).map fun k => (hS S k, f k)) (j / 2) (by simpa using hk)
    rw [hat _ hk] at g1 g2
    injection e3 with e3
    subst e3
    have hadd : ∀ i, (⟨b, off, none⟩ : Addr).add i = ⟨b, off + i, none⟩ := fun i => by
      unfold Addr.add; split
      · rename_i h; subst h; rfl
      · rfl
    rw [hadd]
    rcases Nat.mod_two_eq_zero_or_one j with h2 | h2
    · have : j = j / 2 * 2 := by omega
      rw [this] at hu ⊢
      rw [g1] at hu
      rw [e4, ← hu]
    · have : j = j / 2 * 2 + 1 := by omega
      rw [this] at hu ⊢
      rw [g2] at hu
      rw [← Nat.add_assoc, e5, ← hu]
theorem hv_empty (w : World) : HvOwn (w.alloc (.cells #[] 53)) w.heap.size (.slice (some ⟨w.heap.size, 0, none⟩) 0 0) [] :=
  ⟨rfl, .inr ⟨w.heap.size, 0, #[], rfl, Nat.le_refl _, heap_alloc_new w _, Nat.le_refl _, Nat.zero_le _, rfl, rfl⟩⟩
theorem ints_empty (w : World) : (w.alloc (.cells #[] 3)).ownsRow w.heap.size 3 1 (.slice (some ⟨w.heap.size, 0, none⟩) 0 0) ([] : List Int).length (valsI []) :=
  ⟨rfl, .inr ⟨w.heap.size, 0, #[], rfl, Nat.le_refl _, heap_alloc_new w _, Nat.le_refl _, Nat.zero_le _, rfl, rfl⟩⟩
theorem app_hvs {ops : Array Oper} {rest : List Oper} {o : Oper} {a : Act} {Q : Exit → Act → World → Prop} (hgd : o.guard = none) (s x : Operand)
    (ho : o.op = .call { callee := .builtin .append, args := #[s, x], argTypes := #[31, 31] })
    {base : Nat} {w : World} {v : Value} {n : Nat} {ad : Addr} {c : Nat} (H : List HV) (hs : a.eval s = v) (hown : HvOwn w base v []) (hn : n = H.length)
    (hx : a.eval x = .slice (some ad) n c) (hT : ∀ j u, (flatH H)[j]? = some u → w.cell? (ad.add j) = some u) (hy : ∀ k, k < H.length → isSl (hvAt H k).2 = true) (hl : H.length ≤ 1048576) (hbase : base ≤ w.heap.size)
    (h : ∀ v' w', HvOwn w' base v' H → Below base w w' → wpList Tryd.prog ops Q rest (a.put o.dst v') w') :
    wpList Tryd.prog ops Q (o :: rest) a w := by
  subst hn
  obtain ⟨i0, hi, hz0, hz1, hz2⟩ := info_parts info_share
  refine wpList_append_own w hgd s x 31 ho base 53 i0 _ 2 32 Tryd.underlying31 hi hz0 hz1 hz2 rfl (by omega) v 0 (flatH []) hs hown ad H.length c (flatH H) hx (flatH_len H) hT (flatH_one H hy) (by unfold maxLen; omega) (by omega) hbase ?_
  intro v' w' h2 h3 _
  refine h v' w' ?_ ((Below.refl _ _).grown h3 hbase (fun k hk => (World.ownsRow.lt hown k hk).1))
  unfold HvOwn; simpa [flatH] using h2
theorem app_intsO {ops : Array Oper} {rest : List Oper} {o : Oper} {a : Act} {Q : Exit → Act → World → Prop} (hgd : o.guard = none) (s x : Operand)
    (ho : o.op = .call { callee := .builtin .append, args := #[s, x], argTypes := #[22, 22] })
    {base : Nat} {w : World} {v : Value} {ad : Addr} {c : Nat} (L : List Int) (hs : a.eval s = v) (hown : w.ownsRow base 3 1 v ([] : List Int).length (valsI []))
    (hx : a.eval x = .slice (some ad) L.length c) (hT : ∀ j u, (valsI L)[j]? = some u → w.cell? (ad.add j) = some u) (hl : L.length ≤ 4294967296) (hbase : base ≤ w.heap.size)
    (h : ∀ v' w', w'.ownsRow base 3 1 v' L.length (valsI L) → Below base w w' → wpList Tryd.prog ops Q rest (a.put o.dst v') w') :
    wpList Tryd.prog ops Q (o :: rest) a w := by
  obtain ⟨i0, hi, hz0, hz1, hz2⟩ := info_parts info_int
  refine wpList_append_own w hgd s x 22 ho base 3 i0 _ 1 8 Tryd.underlying22 hi hz0 hz1 hz2 rfl (by omega) v 0 (valsI []) hs hown ad L.length c (valsI L) hx (by simp [valsI]) hT (valsI_one L) (by unfold maxLen; omega) (by omega) hbase ?_
  intro v' w' h2 h3 _
  refine h v' w' ?_ ((Below.refl _ _).grown h3 hbase (fun k hk => (World.ownsRow.lt hown k hk).1))
  simpa [valsI] using h2
set_option maxRecDepth 100000 in
set_option maxHeartbeats 1000000 in
theorem cloneInts_any (A : Option Addr) (L : List Int) (c : Nat) (w : World) (hI : IntsAt w A L) (hok : IOK A c L.length) (hl : L.length ≤ 1048576) :
    Calls Tryd.prog 91 #[.slice A L.length c] w (fun e w' => ∃ B c', e = .returned (.slice B L.length c') ∧ IntsP (fun b => w.heap.size ≤ b) w' B c' L ∧ Below w.heap.size w w') := by
  rcases A with _ | a
  · obtain rfl := hok.nil rfl
    have : L = [] := List.eq_nil_of_length_eq_zero (by have := hok.len; omega)
    subst this
    clear hI hok
    have he : ∀ w : World, (binOp .eql 22 (.slice none 0 0) (.slice none 0 0)).run Tryd.prog w = .ok (.bool true) w := fun _ => rfl
    go_enter Tryd.func91, Tryd.ntmps91
    go_wp2
    go_ret
    exact ⟨none, 0, rfl, IntsP.nil _ _, Below.refl _ _⟩
  · have HS := Lib.hid (IntsAt.news (hI.keep (P := fun _ => True) (w' := w.alloc (.cells #[] 3)) (fun _ _ _ => .inr trivial) ⟨(below_alloc _ _).size, fun b _ hlt => (below_alloc w _).block b hlt⟩) (hok.spot.elim .inl (fun g => .inr (g a rfl))))
    have he : ∀ w : World, (binOp .eql 22 (.slice (some a) L.length c) (.slice none 0 0)).run Tryd.prog w = .ok (.bool false) w := fun _ => rfl
    clear hI hok
    go_enter Tryd.func91, Tryd.ntmps91
    go_wp2_with (first | (at_builtin; refine app_intsO rfl (.tmp 5) (.tmp 6) rfl (base := w.heap.size) (v := .slice (some ⟨w.heap.size, 0, none⟩) 0 0) L rfl (ints_empty w) rfl HS.out (by omega) (by simp) ?_; intro v w1 hown hb; clear he HS) | fail)
    obtain ⟨B, c', rfl, h1, h2, h3⟩ := own_ints hown rfl
    have HX := Lib.hid (show IntsP (fun b => w.heap.size ≤ b) w1 B c' L from ⟨h1, h2, fun b off e => .inr (h3 b off e).1⟩)
    clear hown h1 h2 h3
    go_wp2_with fail
    go_ret
    exact ⟨B, c', rfl, HX.out, below_of_alloc hb (Nat.le_refl _)⟩
set_option maxRecDepth 100000 in
set_option maxHeartbeats 1000000 in
theorem cloneSh_any {P : Nat → Prop} (A : Option Addr) (S : List Shr) (c : Nat) (w : World) (hSh : ShP P w A c S) (hl : S.length ≤ 1048576) :
    Calls Tryd.prog 90 #[.slice A S.length c] w (fun e w' => ∃ v H, e = .returned v ∧ HvOwn w' w.heap.size v H ∧ H.length = S.length ∧
      (∀ k, k < S.length → (hvAt H k).1 = hS S k ∧ ∃ B c', (hvAt H k).2 = .slice B (vS S k).length c' ∧ IntsP P w B c' (vS S k)) ∧ Below w.heap.size w w') := by
  rcases A with _ | a
  · obtain rfl := hSh.ok.nil rfl
    have : S = [] := List.eq_nil_of_length_eq_zero (by have := hSh.ok.len; omega)
    subst this
    clear hSh
    have he : ∀ w : World, (binOp .eql 31 (.slice none 0 0) (.slice none 0 0)).run Tryd.prog w = .ok (.bool true) w := fun _ => rfl
    go_enter Tryd.func90, Tryd.ntmps90
    go_wp2
    go_ret
    exact ⟨_, [], rfl, HvOwn.nil _ _, rfl, fun k hk => absurd hk (by simp), Below.refl _ _⟩
  · obtain ⟨H, h1, h2, h3⟩ := hSh.flat
    have HS := Lib.hid (fun j u hu => ((below_alloc w (.cells #[] 53)).cell (p := a.add j) (by
      have := h3 j u hu
      rcases Nat.lt_or_ge (a.add j).block w.heap.size with h | h
      · exact h
      · unfold World.cell? at this; rw [Array.getElem?_eq_none h] at this; cases this)).trans (h3 j u hu))
    have HSL := Lib.hid (show ∀ k, k < H.length → isSl (hvAt H k).2 = true from fun k hk => by obtain ⟨-, B, c', e, -⟩ := h2 k (by omega); rw [e]; rfl)
    have HH := Lib.hid h2
    have HL := Lib.hid h1
    have hHl : H.length ≤ 1048576 := by omega
    have he : ∀ w : World, (binOp .eql 31 (.slice (some a) S.length c) (.slice none 0 0)).run Tryd.prog w = .ok (.bool false) w := fun _ => rfl
    clear hSh h1 h2 h3
    go_enter Tryd.func90, Tryd.ntmps90
    go_wp2_with (first | (at_builtin; refine app_hvs rfl (.tmp 5) (.tmp 6) rfl (base := w.heap.size) (v := .slice (some ⟨w.heap.size, 0, none⟩) 0 0) H rfl (hv_empty w) HL.out.symm rfl HS.out HSL.out hHl (by simp) ?_; intro v w1 hown hb; clear he HS) | fail)
    go_ret
    exact ⟨_, H, rfl, hown, HL.out, HH.out, below_of_alloc hb (Nat.le_refl _)⟩
end Go.Proofs.YtlhipgejiacklaaDoor
namespace Go.Proofs.YtlhipgejiacklaaDoor
open Go.RowKit

/-- The list of a copy: the values of the first k lie in memory of the call's own. -/
def OwnAt (w : World) (base k : Nat) (v : Value) (H : List HV) (S : List Shr) : Prop :=
  ∀ j, j < S.length → (hvAt H j).1 = hS S j ∧ ∃ B c, (hvAt H j).2 = .slice B (vS S j).length c ∧ IntsP (fun b => if j < k then base ≤ b ∧ v.ownBlock ≠ some b else b < base) w B c (vS S j)
theorem OwnAt.keep {w w' : World} {base k : Nat} {v : Value} {H : List HV} {S : List Shr} (h : OwnAt w base k v H S) (hb : Below w.heap.size w w') : OwnAt w' base k v H S := fun j hj => by
  obtain ⟨e1, B, c, e2, e3⟩ := h j hj
  exact ⟨e1, B, c, e2, e3.keep (Kept.below hb)⟩
theorem OwnAt.step {w W : World} {base k g c0 : Nat} {n : Nat} {H : List HV} {S : List Shr} (h : OwnAt w base k (.slice (some ⟨g, 0, none⟩) n c0) H S) (hl : H.length = S.length) (hk : k < S.length) (hg : base ≤ g) (hgw : g < w.heap.size) (hbs : base ≤ w.heap.size) (hb : Below w.heap.size w W) {B : Option Addr} {c : Nat}
    (hI : IntsP (fun b => w.heap.size ≤ b) W B c (vS S k)) (u : Value) :
    OwnAt (W.setCell ⟨g, k * 2 + 1, none⟩ u) base (k + 1) (.slice (some ⟨g, 0, none⟩) n c0) (H.set k ((hvAt H k).1, .slice B (vS S k).length c)) S := fun j hj => by
  have hs : ∀ b, b ≠ g → (W.setCell ⟨g, k * 2 + 1, none⟩ u).heap[b]? = W.heap[b]? := fun b hb => Below.heap_setCell W _ u b hb
  have hz : W.heap.size ≤ (W.setCell ⟨g, k * 2 + 1, none⟩ u).heap.size := by simp [World.setCell]
  by_cases hjk : j = k
  · subst hjk
    rw [hvAt_set_same _ _ _ (by omega)]
    refine ⟨(h j hj).1, B, c, rfl, ?_⟩
    have h1 := hI.mono (Q := fun b => (base ≤ b ∧ (Value.slice (some ⟨g, 0, none⟩) n c0).ownBlock ≠ some b) ∧ b ≠ g) (fun b _ hb => ⟨⟨by omega, fun e => by have : g = b := Option.some.inj e; omega⟩, by omega⟩)
    have h2 := h1.keep (w' := W.setCell ⟨g, j * 2 + 1, none⟩ u) ⟨hz, fun b hb _ => hs b hb.2⟩
    exact h2.mono (fun b _ hb => by rw [if_pos (by omega)]; exact hb.1)
  · rw [hvAt_set_other _ _ _ _ (by omega)]
    obtain ⟨e1, B', c', e2, e3⟩ := h j hj
    refine ⟨e1, B', c', e2, ?_⟩
    have h1 := e3.keep (w' := W) (Kept.below hb)
    have h2 := h1.keep (w' := W.setCell ⟨g, k * 2 + 1, none⟩ u) ⟨hz, fun b hb _ => hs b (fun e => by
      subst e
      by_cases hj2 : j < k
      · rw [if_pos hj2] at hb; exact hb.2 rfl
      · rw [if_neg hj2] at hb; omega)⟩
    refine h2.mono fun b _ hb => ?_
    by_cases hj2 : j < k
    · rw [if_pos hj2] at hb; rw [if_pos (by omega)]; exact hb
    · rw [if_neg hj2] at hb; rw [if_neg (by omega)]; exact hb

set_option maxRecDepth 100000 in
set_option maxHeartbeats 4000000 in
theorem own_any {P : Nat → Prop} (A : Option Addr) (S : List Shr) (c : Nat) (w : World) (hSh : ShP P w A c S) (hsh : Short S) (hl : S.length ≤ 100000) :
    Calls Tryd.prog 56 #[.slice A S.length c] w (NewSh S w) := by
  have HC := Lib.hid (cloneSh_any A S c w hSh (by omega))
  have HSH := Lib.hid hsh
  clear hSh hsh
  go_enter Tryd.func56, Tryd.ntmps56
  go_wp2_with fail
  refine HC.out.mono ?_
  rintro e w1 ⟨v, H0, rfl, hown, hlen, hH, hb1⟩
  obtain ⟨VA, vc, hv⟩ := hown.sl
  rw [hlen] at hv
  subst hv
  have hbs := hb1.size
  have HOWN := Lib.hid hown
  have HST := Lib.hid (show OwnAt w1 w.heap.size 0 (.slice VA S.length vc) H0 S from fun j hj => by
    obtain ⟨e1, B, c', e2, e3⟩ := hH j hj
    exact ⟨e1, B, c', e2, ((e3.mono (Q := fun b => b < w.heap.size) (fun b hb _ => hb)).keep (Kept.app hb1)).mono (fun b _ hb => by rw [if_neg (by omega)]; exact hb)⟩)
  have HLEN := Lib.hid hlen
  clear hown hH hlen HC
  go_wp2_with fail
  go_loopw [10] (fun i wr => ∃ (k : Nat) (H : List HV), k ≤ S.length ∧ i = .int .i64 k ∧ HvOwn wr w.heap.size (.slice VA S.length vc) H ∧ H.length = S.length ∧ OwnAt wr w.heap.size k (.slice VA S.length vc) H S ∧ Below w.heap.size w wr) (fun i _ => S.length - (intOf i).toNat)
  case atStart => exact ⟨0, H0, Nat.zero_le _, rfl, HOWN.out, HLEN.out, HST.out, hb1⟩
  case round =>
    obtain ⟨k, H, hk, rfl, hown, hlen, hat, hbr⟩ := hrel
    have hsz := hbr.size
    by_cases hlt : k < S.length
    · obtain ⟨g, c1, hv, hg, hbg, hlc, hcm, hcell, hfz⟩ := hown.form (by omega)
      injection hv with hv1 hv2 hv3
      subst hv1 hv3
      obtain ⟨c0, c2⟩ := hcell k (by omega)
      obtain ⟨e1, B, cB, e2, e3⟩ := hat k hlt
      rw [e1] at c0
      rw [e2] at c2
      have hf1 := hfz (k * 2 + 1)
      have HO := Lib.hid hown
      have HAT := Lib.hid hat
      have HL := Lib.hid hlen
      have hvl := HSH.out k hlt
      have HI := Lib.hid e3
      have HE := Lib.hid e1
      have i1 : (0 : Int) ≤ (k : Int) := by omega
      have i2 : (k : Int) < (S.length : Int) := by omega
      generalize hL : vS S k = L at *
      have HLL := Lib.hid hL
      generalize hS S k = x at *
      clear hown hat hlen hcell hfz e1 e2 e3 hL hv2
      have HIO := Lib.hid HI.out.ok
      go_wp2_with fail
      refine (cloneInts_any B L cB _ ((HI.out.keep (Kept.below (below_alloc _ _))).ints) HIO.out hvl).mono ?_
      rintro e w2 ⟨B', c', rfl, hI2, hb2⟩
      have hbW := below_trans (below_alloc wr (.cells #[.int .i64 x, .slice B L.length cB] 53)) hb2
      have hO2 : HvOwn w2 w.heap.size (.slice (some ⟨g, 0, none⟩) H.length vc) H := by rw [HL.out]; exact HO.out.below hbW
      have hI3 := hI2.mono (Q := fun b => wr.heap.size ≤ b) (fun b _ hb => by rw [size_alloc] at hb; omega)
      have d1 := (hbW.cell (p := ⟨g, k * 2 + 1, none⟩) hg).trans c2
      have d2 := (hbW.frozen (p := ⟨g, k * 2 + 1, none⟩) hg).trans hf1
      have hs1 := hO2.set1 k (by rw [HL.out]; exact hlt) (.slice B' L.length c')
      rw [HL.out] at hs1
      have hs2 := HAT.out.step HL.out hlt hbg hg hsz hbW (by rw [HLL.out]; exact hI3) (.slice B' L.length c')
      rw [HLL.out] at hs2
      have hs3 := (hbr.trans (hbW.mono hsz)).setCell (p := ⟨g, k * 2 + 1, none⟩) hbg (.slice B' L.length c')
      have HZ := Lib.hid (And.intro hs1 (And.intro hs2 hs3))
      clear hO2 hI2 hI3 hs1 hs2 hs3 hbW hb2
      go_wp2_with fail
      go_roundw
      case rel => exact ⟨k + 1, _, by omega, by go_num, HZ.out.1, by rw [List.length_set]; exact HL.out, HZ.out.2.1, HZ.out.2.2⟩
      case measure => simp [intOf]; omega
    · obtain rfl : k = S.length := by omega
      have hR : RowsV (fun b => w.heap.size ≤ b) wr w.heap.size (.slice VA S.length vc) S := ⟨H, hown, hlen, fun j hj => by
        obtain ⟨e1, B, cB, e2, e3⟩ := hat j hj
        exact ⟨e1, B, cB, e2, e3.mono (fun b _ hb => by rw [if_pos hj] at hb; exact hb)⟩⟩
      obtain ⟨A', c', hv, hX⟩ := hR.read
      injection hv with h1 _ h3
      subst h1 h3
      have HX := Lib.hid (hX.mono (Q := fun b => w.heap.size ≤ b) (fun b _ hb => by omega))
      clear hown hlen hat hR hX
      go_wp2_with fail
      go_ret
      exact ⟨VA, vc, rfl, HX.out, hbr⟩
end Go.Proofs.YtlhipgejiacklaaDoor
namespace Go.Proofs.YtlhipgejiacklaaDoor
open Go.RowKit

set_option maxRecDepth 100000 in
set_option maxHeartbeats 4000000 in
theorem apply_range {P P' : Nat → Prop} (p n h : Nat) (A B : Option Addr) (ca cb kA kB : Nat) (N M : List ShN) (w : World) (hv : primeV p = validI p) (hB : Bases w) (hpl : plB p n h = true) (gN : GoodN p h N) (gM : GoodN p h M) (hA : ShP P w A ca (shL N)) (hM : ShP P' w B cb (shL M)) (hkA : kA = N.length) (hkB : kB = M.length) (hl : N.length ≤ 100000) (hl2 : M.length ≤ 100000) (hno : apOk N M = true) (hq1 : 0 < N.length) (hq2 : (vN N 0).length ≠ (vN M 0).length) :
    Calls Tryd.prog 25 #[planV p n h, .slice A kA ca, .slice B kB cb] w (ShErr (shL (apL p N M)) (apE N M) w) := by
  subst hkA hkB
  have hshN : Short (shL N) := short_shL fun k hk => by have := gN.few k hk; omega
  have hshM : Short (shL M) := short_shL fun k hk => by have := gM.few k hk; omega
  obtain ⟨l1, l2, l3, l4, -⟩ := (of_decide_eq_true hpl : PlanP p n h)
  have HVA := Lib.hid (fun (W : World) (hb : Below w.heap.size w W) => show Calls Tryd.prog 49 #[planV p n h] W (RetB (.bool true) W) from by have := valid_plan p n h W (hB.below hb hB.1); rw [hpl] at this; exact this)
  have HGN := Lib.hid (fun (W : World) (hb : Below w.heap.size w W) => show Calls Tryd.prog 55 #[planV p n h, .slice A N.length ca] W (RetB (.bool true) W) from by have := good_any p n h A ca (shL N) W (hA.below hb) hshN (by omega) (by rw [shL_len]; omega); rw [← gdB_yes (gd_back gN), shL_len] at this; exact this)
  have HGM := Lib.hid (fun (W : World) (hb : Below w.heap.size w W) => show Calls Tryd.prog 55 #[planV p n h, .slice B M.length cb] W (RetB (.bool true) W) from by have := good_any p n h B cb (shL M) W (hM.below hb) hshM (by omega) (by rw [shL_len]; omega); rw [← gdB_yes (gd_back gM), shL_len] at this; exact this)
  have HC := Lib.hid (fun (W : World) (hb : Below w.heap.size w W) (g z : Nat) (hc : W.cell? ⟨z, 0, none⟩ = some (.slice B M.length cb)) (hz : z < W.heap.size) (hf : W.cell? ⟨g, 0, none⟩ = some (.func (.func 57) #[] #[.pointer (some ⟨z, 0, none⟩)])) (hg : g < W.heap.size) =>
    show Calls Tryd.prog 60 #[.slice A N.length ca, .func (.func 61) #[] #[.pointer (some ⟨g, 0, none⟩)]] W (RetB (.bool (!apOk N M)) W) from by
      have := containsSh_any 61 #[.pointer (some ⟨g, 0, none⟩)] (fun k => !hasH M (hN N k)) A (shL N) ca W (hA.below hb) (by rw [shL_len]; omega) enter_ap2 (fun w' hb' k hk B' c' => by
        rw [shL_len] at hk
        have := ap2_any (hS (shL N) k) (.slice B' (vS (shL N) k).length c') B cb (shL M) g z w' (by rw [shL_len]; exact (hb'.cell hz).trans hc) (Nat.lt_of_lt_of_le hz hb'.size) ((hb'.cell hg).trans hf) (Nat.lt_of_lt_of_le hg hb'.size) (hM.below (below_trans hb hb')) (by rw [shL_len]; omega)
        rw [hS_shL hk, shL_len] at this
        rw [hS_shL hk]; exact this)
      rw [shL_len] at this
      unfold apOk
      rw [Bool.not_not]; exact this)
  have HBS := Lib.hid hB
  have HA := Lib.hid hA
  have HM := Lib.hid hM
  have HGDN := Lib.hid gN
  have HGDM := Lib.hid gM
  have HPL := Lib.hid hpl
  have HPV := Lib.hid hv
  clear hB hA hM gN gM hpl hv hshN hshM
  have he : apE N M = 2 := by unfold apE; rw [if_pos hno, if_neg (by omega)]
  have hL : apL p N M = [] := by unfold apL; rw [if_neg (by rw [he]; decide)]
  rw [hL, he]
  rw [hno] at HC
  have HOK := Lib.hid hno
  have HQ := Lib.hid hq2
  clear he hL hno hq2
  go_enter Tryd.func25, Tryd.ntmps25
  go_wp2_with fail
  refine gen_calls fun w1 hw1 => ?_
  have hpc1 : PlanCell w1 w.heap.size p n h := by rw [hw1]; exact (PlanCell.new _ _ _ rfl).alloc _
  have hz1 : w1.heap[w.heap.size + 1]? = some (.cells #[.slice B M.length cb] 31 (0, 0)) := by
    rw [hw1]
    have := heap_alloc_new (w.alloc (.cells #[.int .i64 (p : Int), .int .i64 (n : Int), .int .i64 (h : Int)] 28)) (.cells #[.slice B M.length cb] 31)
    rw [size_alloc] at this; exact this
  have hb1 : Below w.heap.size w w1 := by rw [hw1]; exact below_trans (below_alloc _ _) (below_alloc _ _)
  clear hw1
  refine ret_below (HVA.out _ hb1) fun w2 hb2 => ?_
  have hb2w := below_trans hb1 hb2
  have hpc2 := hpc1.below hb2
  have hlz1 := blk_lt hz1
  have hz2 := (hb2.block _ hlz1).trans hz1
  have p0 := hpc2.c0
  have p1 := hpc2.c1
  have p2 := hpc2.c2
  have z0 : w2.cell? ⟨w.heap.size + 1, 0, none⟩ = some (.slice B M.length cb) := by rw [cell_of_row w2 _ 0 _ _ (0, 0) hz2]; rfl
  clear hpc1 hz1 hb1 hb2
  go_wp2_with fail
  refine ret_below (HGN.out _ hb2w) fun w3 hb3 => ?_
  have hb3w := below_trans hb2w hb3
  have hpc3 := hpc2.below hb3
  have hlz2 := blk_lt hz2
  have hz3 := (hb3.block _ hlz2).trans hz2
  have p03 := hpc3.c0
  have p13 := hpc3.c1
  have p23 := hpc3.c2
  have z03 := (hb3.cell (p := ⟨w.heap.size + 1, 0, none⟩) hlz2).trans z0
  clear p0 p1 p2 z0 hpc2 hz2 hb2w hb3
  go_wp2_with fail
  refine ret_below (HGM.out _ hb3w) fun w4 hb4 => ?_
  have hb4w := below_trans hb3w hb4
  have hpc4 := hpc3.below hb4
  have hlz3 := blk_lt hz3
  have hz4 := (hb4.block _ hlz3).trans hz3
  have z04 := (hb4.cell (p := ⟨w.heap.size + 1, 0, none⟩) hlz3).trans z03
  have hlz4 := blk_lt hz4
  clear p03 p13 p23 z03 hpc3 hz3 hb3w hb4
  go_wp2_with fail
  refine gen_calls fun w5 hw5 => ?_
  have hf5 : w5.heap[w4.heap.size]? = some (.cells #[.func (.func 57) #[] #[.pointer (some ⟨w.heap.size + 1, 0, none⟩)]] 34 (0, 0)) := by
    rw [hw5]; exact heap_alloc_new w4 _
  have hb5 : Below w4.heap.size w4 w5 := by rw [hw5]; exact below_alloc _ _
  have hb5w := below_trans hb4w hb5
  clear hw5
  have hlf5 := blk_lt hf5
  have f5 : w5.cell? ⟨w4.heap.size, 0, none⟩ = some (.func (.func 57) #[] #[.pointer (some ⟨w.heap.size + 1, 0, none⟩)]) := by rw [cell_of_row w5 _ 0 _ _ (0, 0) hf5]; rfl
  have z05 := (hb5.cell (p := ⟨w.heap.size + 1, 0, none⟩) hlz4).trans z04
  have hpc5 := hpc4.below hb5
  have hlz5 : w.heap.size + 1 < w5.heap.size := Nat.lt_of_lt_of_le hlz4 hb5.size
  have hlp5 := hpc5.lt
  generalize w4.heap.size = pf at *
  refine ret_below (HC.out _ hb5w pf (w.heap.size + 1) z05 hlz5 f5 hlf5) fun w6 hb6 => ?_
  have hb6w := below_trans hb5w hb6
  have HP6 := Lib.hid (hpc5.below hb6)
  have z06 := (hb6.cell (p := ⟨w.heap.size + 1, 0, none⟩) hlz5).trans z05
  have f6 := (hb6.cell (p := ⟨pf, 0, none⟩) hlf5).trans f5
  have lz6 : w.heap.size + 1 < w6.heap.size := Nat.lt_of_lt_of_le hlz5 hb6.size
  have lf6 : pf < w6.heap.size := Nat.lt_of_lt_of_le hlf5 hb6.size
  have lp6 := HP6.out.lt
  clear hpc4 hpc5 hz4 z04 z05 f5 hf5 hb4w hb5 hb5w hb6 hlz5 hlf5 hlz4 hlz3 hlz2 hlz1 hlp5 HVA HGN HGM HC
  have b0 : 1 ≤ p := by omega
  have b1 : p ≤ 1073741824 := by
    obtain ⟨q, hq, -, hq2⟩ := plan_prime (of_decide_eq_true HPL.out) HPV.out
    omega
  go_wp2_with fail
  go_loopw [9, 35] (fun o i wr => ∃ k : Nat, k = 0 ∧ i = .int .i64 k ∧ RowsV (fun b => w6.heap.size ≤ b) wr w6.heap.size o (shL ((apT p N M).take k)) ∧ Below w6.heap.size w6 wr) (fun _ i _ => N.length - (intOf i).toNat)
  case atStart => exact ⟨0, rfl, rfl, RowsV.nil _ _ _, Below.refl _ _⟩
  case round =>
    obtain ⟨k, hk0, rfl, hR, hbr⟩ := hrel
    have hk : k ≤ N.length := by omega
    have HK0 := Lib.hid hk0
    clear hk0
    obtain ⟨OA, oc, hv, hRd⟩ := hR.read
    have hlk : (shL ((apT p N M).take k)).length = k := by rw [shL_len, List.length_take, apT_len]; omega
    rw [hlk] at hv
    subst hv
    have hsz := hbr.size
    have hbw := below_trans hb6w hbr
    have HR := Lib.hid hR
    have HLK := Lib.hid hlk
    have HRd := Lib.hid hRd
    clear hR hlk hRd
    by_cases hlt : k < N.length
    · obtain ⟨b1', o1, B1, c1, rfl, hb1, -, x0, x1, hX, -⟩ := (HA.out.below hbw).nat hlt
      have hh := apOk_at HOK.out hlt
      obtain ⟨-, hj, hjx⟩ := apI_at hh
      obtain ⟨b2, o2, B2, c2, rfl, hb2, -, u0, u1, hU, -⟩ := (HM.out.below hbw).nat hj
      have HTK := Lib.hid (apT_take (p := p) (M := M) hlt)
      obtain ⟨hx1, hx2, hLp⟩ := HGDN.out.rng k hlt
      have hl0 := HGDN.out.len k hlt
      have hlf := HGDN.out.few k hlt
      obtain ⟨-, -, hKp⟩ := HGDM.out.rng _ hj
      have hkl0 := HGDM.out.len _ hj
      have hkf := HGDM.out.few _ hj
      have HLEN := Lib.hid (And.intro hl0 hkl0)
      rw [hjx] at u0
      generalize hjd : apI M (hN N k) = j at *
      generalize hL : vN N k = L at *
      generalize hK : vN M j = K at *
      generalize hx : hN N k = x at *
      have HLP := Lib.hid hLp
      have HKP := Lib.hid hKp
      have HH := Lib.hid hh
      have HJD := Lib.hid hjd
      have hjI : (0 : Int) ≤ (j : Int) := by omega
      have hjM : (j : Int) < (M.length : Int) := by omega
      have HKL := Lib.hid (show K.length ≠ L.length from (by have := HQ.out; omega))
      have hq6 := HP6.out.keep (hbr.block w.heap.size lp6)
      have hP0 := hq6.c0
      have hP1 := hq6.c1
      have hP2 := hq6.c2
      have hzr := (hbr.cell (p := ⟨w.heap.size + 1, 0, none⟩) lz6).trans z06
      have hfr := (hbr.cell (p := ⟨pf, 0, none⟩) lf6).trans f6
      have lpr : w.heap.size < wr.heap.size := by omega
      have lzr : w.heap.size + 1 < wr.heap.size := by omega
      have lfr : pf < wr.heap.size := by omega
      clear hjx hLp hKp hh hjd hL hK hx hl0 hkl0 hj hq6
      go_wp2_with fail
      refine gen_world fun w7 hw7 => ?_
      have hsc : ShCell w7 wr.heap.size x (.slice B1 L.length c1) := by rw [hw7]; exact ShCell.new _ _ rfl
      have hb7 : Below wr.heap.size wr w7 := by rw [hw7]; exact below_alloc _ _
      have hb7z := hb7.size
      have hs7 : w6.heap.size ≤ w7.heap.size := by omega
      have hbw7 := below_trans hbw hb7
      have v0 := hsc.c0
      have v1 := hsc.c1
      have lg7 := hsc.lt
      have lp7 : w.heap.size < w7.heap.size := by omega
      have lz7 : w.heap.size + 1 < w7.heap.size := by omega
      have lf7 : pf < w7.heap.size := by omega
      have lb7 : b2 < w7.heap.size := by omega
      have y0 := (hb7.cell (p := ⟨w.heap.size, 0, none⟩) lpr).trans hP0
      have y1 := (hb7.cell (p := ⟨w.heap.size, 1, none⟩) lpr).trans hP1
      have y2 := (hb7.cell (p := ⟨w.heap.size, 2, none⟩) lpr).trans hP2
      have yz := (hb7.cell (p := ⟨w.heap.size + 1, 0, none⟩) lzr).trans hzr
      have yf := (hb7.cell (p := ⟨pf, 0, none⟩) lfr).trans hfr
      have u0 := (hb7.cell (p := ⟨b2, o2 + j * 2, none⟩) hb2).trans u0
      have u1 := (hb7.cell (p := ⟨b2, o2 + j * 2 + 1, none⟩) hb2).trans u1
      have HX7 := Lib.hid (hX.below hb7)
      have HU7 := Lib.hid (hU.below hb7)
      have HR7 := Lib.hid (HR.out.below hb7)
      have HAP := Lib.hid (fun (W : World) (hb : Below w7.heap.size w7 W) => ap1_at x (some ⟨b2, o2, none⟩) cb j M (w.heap.size + 1) W ((hb.cell (p := ⟨w.heap.size + 1, 0, none⟩) lz7).trans yz) (Nat.lt_of_lt_of_le lz7 hb.size) (HM.out.below (below_trans hbw7 hb)) (by omega) HH.out HJD.out)
      clear hw7 hsc hP0 hP1 hP2 hzr hfr x0 x1 hX hU
      go_region_held3 (fun w' => w'.cell? ⟨w.heap.size, 0, none⟩ = some (.int .i64 (p : Int)) ∧ w'.cell? ⟨w.heap.size, 1, none⟩ = some (.int .i64 (n : Int)) ∧ w'.cell? ⟨w.heap.size, 2, none⟩ = some (.int .i64 (h : Int)) ∧ w'.cell? ⟨w.heap.size + 1, 0, none⟩ = some (.slice (some ⟨b2, o2, none⟩) M.length cb) ∧ w'.cell? ⟨pf, 0, none⟩ = some (.func (.func 57) #[] #[.pointer (some ⟨w.heap.size + 1, 0, none⟩)]) ∧ w'.cell? ⟨wr.heap.size, 0, none⟩ = some (.int .i64 (x : Int)) ∧ w'.cell? ⟨wr.heap.size, 1, none⟩ = some (.slice B1 L.length c1) ∧ w'.cell? ⟨b2, o2 + j * 2, none⟩ = some (.int .i64 (x : Int)) ∧ w'.cell? ⟨b2, o2 + j * 2 + 1, none⟩ = some (.slice B2 K.length c2)) (first | (go_keep; done) | (exact ⟨keep_set2 (by dsimp only; omega) t0, keep_set2 (by dsimp only; omega) t1, keep_set2 (by dsimp only; omega) t2, keep_set2 (by dsimp only; omega) t3, keep_set2 (by dsimp only; omega) t4, keep_set2 (by dsimp only; omega) t5, keep_set2 (by dsimp only; omega) t6, keep_set2 (by dsimp only; omega) t7, keep_set2 (by dsimp only; omega) t8⟩))
        (first
          | (go_at_call 57; refine ret_below (HAP.out _ (by (repeat (first | exact bl_refl _ | apply bl_drew | apply bl_alloc)))) ?_; intro w8 hb8; (first
              | (have hb8' : Below w7.heap.size w7 w8 := below_undrew1 hb8)
              | (have hb8A : Below (w7.alloc shO).heap.size (w7.alloc shO) w8 := below_undrew1 hb8; have hb8' : Below w7.heap.size w7 w8 := below_trans (below_alloc _ _) hb8A; have HRz := Lib.hid ((ShCell.new (w := w7) 0 (.slice none 0 0) rfl).below hb8A); have fz0 := HRz.out.frozen 0; have fz1 := HRz.out.frozen 1; have rz0 := HRz.out.c0; have rz1 := HRz.out.c1)); have zd := hb8'.size; have s0 := (hb8'.cell (p := ⟨w.heap.size, 0, none⟩) lp7).trans y0; have s1 := (hb8'.cell (p := ⟨w.heap.size, 1, none⟩) lp7).trans y1; have s2 := (hb8'.cell (p := ⟨w.heap.size, 2, none⟩) lp7).trans y2; have s3 := (hb8'.cell (p := ⟨w.heap.size + 1, 0, none⟩) lz7).trans yz; have s4 := (hb8'.cell (p := ⟨pf, 0, none⟩) lf7).trans yf; have s5 := (hb8'.cell (p := ⟨wr.heap.size, 0, none⟩) lg7).trans v0; have s6 := (hb8'.cell (p := ⟨wr.heap.size, 1, none⟩) lg7).trans v1; have s7 := (hb8'.cell (p := ⟨b2, o2 + j * 2, none⟩) lb7).trans u0; have s8 := (hb8'.cell (p := ⟨b2, o2 + j * 2 + 1, none⟩) lb7).trans u1)
          | (go_at_call 62; refine (add_bad p n h x B1 B2 L K c1 c2 _ HPV.out (HBS.out.below (below_trans hbw7 (by (repeat (first | exact bl_refl _ | exact hb8' | apply bl_drew | apply bl_alloc)))) HBS.out.1) HKL.out (HX7.out.below (by (repeat (first | exact bl_refl _ | exact hb8' | apply bl_drew | apply bl_alloc)))) (HU7.out.below (by (repeat (first | exact bl_refl _ | exact hb8' | apply bl_drew | apply bl_alloc)))) (by omega) (by omega)).mono ?_; rintro e w9 ⟨SAe, sce, rfl, hSe, hOKe, hOffe, hbe⟩; (first
              | (have HZ := HRz; have hbe' : Below w7.heap.size w7 w9 := below_trans hb8' hbe; have HRy := Lib.hid (HRz.out.below hbe); have fy0 := HRy.out.frozen 0; have fy1 := HRy.out.frozen 1; have ry0 := HRy.out.c0; have ry1 := HRy.out.c1)
              | (have hbeA : Below (w8.alloc shO).heap.size (w8.alloc shO) w9 := hbe; have hbe' : Below w7.heap.size w7 w9 := below_trans hb8' (below_trans (below_alloc _ _) hbeA); have HRy := Lib.hid ((ShCell.new (w := w8) 0 (.slice none 0 0) rfl).below hbeA); have fy0 := HRy.out.frozen 0; have fy1 := HRy.out.frozen 1; have ry0 := HRy.out.c0; have ry1 := HRy.out.c1)
              | (have hbe' : Below w7.heap.size w7 w9 := below_trans hb8' hbe)); have t0 := (hbe'.cell (p := ⟨w.heap.size, 0, none⟩) lp7).trans y0; have t1 := (hbe'.cell (p := ⟨w.heap.size, 1, none⟩) lp7).trans y1; have t2 := (hbe'.cell (p := ⟨w.heap.size, 2, none⟩) lp7).trans y2; have t3 := (hbe'.cell (p := ⟨w.heap.size + 1, 0, none⟩) lz7).trans yz; have t4 := (hbe'.cell (p := ⟨pf, 0, none⟩) lf7).trans yf; have t5 := (hbe'.cell (p := ⟨wr.heap.size, 0, none⟩) lg7).trans v0; have t6 := (hbe'.cell (p := ⟨wr.heap.size, 1, none⟩) lg7).trans v1; have t7 := (hbe'.cell (p := ⟨b2, o2 + j * 2, none⟩) lb7).trans u0; have t8 := (hbe'.cell (p := ⟨b2, o2 + j * 2 + 1, none⟩) lb7).trans u1))
      all_goals
        clear hSe hOKe hOffe
        go_wp2_with fail
        go_ret2
        exact ShErr.nil _ (by
          refine below_trans hbw7 ?_
          first
            | exact below_set2 hbe' (by omega) _ _
            | exact bl_alloc _ hbe'
            | exact (below_set2 hbe' (by omega) _ _).drew)
    · have := HK0.out; omega

set_option maxRecDepth 100000 in
set_option maxHeartbeats 4000000 in
theorem apply_bad1 {P P' : Nat → Prop} (p n h : Nat) (A B : Option Addr) (ca cb : Nat) (S Z : List Shr) (w : World) (hB : Bases w) (hpl : plB p n h = true) (hA : ShP P w A ca S) (hM : ShP P' w B cb Z) (hsS : Short S) (hsZ : Short Z) (hl : S.length ≤ 100000) (hl2 : Z.length ≤ 100000) (hbad : gdB p h S = false) :
    Calls Tryd.prog 25 #[planV p n h, .slice A S.length ca, .slice B Z.length cb] w (ShErr [] 1 w) := by
  obtain ⟨l1, l2, l3, l4, -⟩ := (of_decide_eq_true hpl : PlanP p n h)
  have HVA := Lib.hid (fun (W : World) (hb : Below w.heap.size w W) => show Calls Tryd.prog 49 #[planV p n h] W (RetB (.bool true) W) from by have := valid_plan p n h W (hB.below hb hB.1); rw [hpl] at this; exact this)
  have HGN := Lib.hid (fun (W : World) (hb : Below w.heap.size w W) => good_any p n h A ca S W (hA.below hb) hsS (by omega) (by omega))
  have HGM := Lib.hid (fun (W : World) (hb : Below w.heap.size w W) => good_any p n h B cb Z W (hM.below hb) hsZ (by omega) (by omega))
  rw [hbad] at HGN
  clear hB hA hM hpl hsS hsZ
  go_enter Tryd.func25, Tryd.ntmps25
  go_wp2_with fail
  refine gen_calls fun w1 hw1 => ?_
  have hpc1 : PlanCell w1 w.heap.size p n h := by rw [hw1]; exact (PlanCell.new _ _ _ rfl).alloc _
  have hz1 : w1.heap[w.heap.size + 1]? = some (.cells #[.slice B Z.length cb] 31 (0, 0)) := by
    rw [hw1]
    have := heap_alloc_new (w.alloc (.cells #[.int .i64 (p : Int), .int .i64 (n : Int), .int .i64 (h : Int)] 28)) (.cells #[.slice B Z.length cb] 31)
    rw [size_alloc] at this; exact this
  have hb1 : Below w.heap.size w w1 := by rw [hw1]; exact below_trans (below_alloc _ _) (below_alloc _ _)
  clear hw1
  refine ret_below (HVA.out _ hb1) fun w2 hb2 => ?_
  have hb2w := below_trans hb1 hb2
  have hpc2 := hpc1.below hb2
  have hlz1 := blk_lt hz1
  have hz2 := (hb2.block _ hlz1).trans hz1
  have p0 := hpc2.c0
  have p1 := hpc2.c1
  have p2 := hpc2.c2
  have z0 : w2.cell? ⟨w.heap.size + 1, 0, none⟩ = some (.slice B Z.length cb) := by rw [cell_of_row w2 _ 0 _ _ (0, 0) hz2]; rfl
  clear hpc1 hz1 hb1 hb2
  go_wp2_with fail
  refine ret_below (HGN.out _ hb2w) fun w3 hb3 => ?_
  go_wp2_with fail
  go_ret2
  exact ShErr.nil _ (below_trans hb2w hb3)

set_option maxRecDepth 100000 in
set_option maxHeartbeats 4000000 in
theorem apply_bad2 {P P' : Nat → Prop} (p n h : Nat) (A B : Option Addr) (ca cb : Nat) (S Z : List Shr) (w : World) (hB : Bases w) (hpl : plB p n h = true) (hA : ShP P w A ca S) (hM : ShP P' w B cb Z) (hsS : Short S) (hsZ : Short Z) (hl : S.length ≤ 100000) (hl2 : Z.length ≤ 100000) (hbad : gdB p h S = true ∧ gdB p h Z = false) :
    Calls Tryd.prog 25 #[planV p n h, .slice A S.length ca, .slice B Z.length cb] w (ShErr [] 1 w) := by
  obtain ⟨l1, l2, l3, l4, -⟩ := (of_decide_eq_true hpl : PlanP p n h)
  have HVA := Lib.hid (fun (W : World) (hb : Below w.heap.size w W) => show Calls Tryd.prog 49 #[planV p n h] W (RetB (.bool true) W) from by have := valid_plan p n h W (hB.below hb hB.1); rw [hpl] at this; exact this)
  have HGN := Lib.hid (fun (W : World) (hb : Below w.heap.size w W) => good_any p n h A ca S W (hA.below hb) hsS (by omega) (by omega))
  have HGM := Lib.hid (fun (W : World) (hb : Below w.heap.size w W) => good_any p n h B cb Z W (hM.below hb) hsZ (by omega) (by omega))
  rw [hbad.1] at HGN
  rw [hbad.2] at HGM
  clear hbad
  clear hB hA hM hpl hsS hsZ
  go_enter Tryd.func25, Tryd.ntmps25
  go_wp2_with fail
  refine gen_calls fun w1 hw1 => ?_
  have hpc1 : PlanCell w1 w.heap.size p n h := by rw [hw1]; exact (PlanCell.new _ _ _ rfl).alloc _
  have hz1 : w1.heap[w.heap.size + 1]? = some (.cells #[.slice B Z.length cb] 31 (0, 0)) := by
    rw [hw1]
    have := heap_alloc_new (w.alloc (.cells #[.int .i64 (p : Int), .int .i64 (n : Int), .int .i64 (h : Int)] 28)) (.cells #[.slice B Z.length cb] 31)
    rw [size_alloc] at this; exact this
  have hb1 : Below w.heap.size w w1 := by rw [hw1]; exact below_trans (below_alloc _ _) (below_alloc _ _)
  clear hw1
  refine ret_below (HVA.out _ hb1) fun w2 hb2 => ?_
  have hb2w := below_trans hb1 hb2
  have hpc2 := hpc1.below hb2
  have hlz1 := blk_lt hz1
  have hz2 := (hb2.block _ hlz1).trans hz1
  have p0 := hpc2.c0
  have p1 := hpc2.c1
  have p2 := hpc2.c2
  have z0 : w2.cell? ⟨w.heap.size + 1, 0, none⟩ = some (.slice B Z.length cb) := by rw [cell_of_row w2 _ 0 _ _ (0, 0) hz2]; rfl
  clear hpc1 hz1 hb1 hb2
  go_wp2_with fail
  refine ret_below (HGN.out _ hb2w) fun w3 hb3 => ?_
  have hb3w := below_trans hb2w hb3
  have hpc3 := hpc2.below hb3
  have hlz2 := blk_lt hz2
  have p03 := hpc3.c0
  have p13 := hpc3.c1
  have p23 := hpc3.c2
  have z03 := (hb3.cell (p := ⟨w.heap.size + 1, 0, none⟩) hlz2).trans z0
  clear p0 p1 p2 z0 hpc2 hz2 hb2w hb3
  go_wp2_with fail
  refine ret_below (HGM.out _ hb3w) fun w4 hb4 => ?_
  go_wp2_with fail
  go_ret2
  exact ShErr.nil _ (below_trans hb3w hb4)

/-! ### What Apply says of any lists -/
noncomputable def aE (p h : Nat) (S Z : List Shr) : Int := if gdB p h S = true then (if gdB p h Z = true then apE (natL S) (natL Z) else 1) else 1
noncomputable def aT (p h : Nat) (S Z : List Shr) : List ShN := if aE p h S Z = 0 then apT p (natL S) (natL Z) else []
theorem apply_any {P P' : Nat → Prop} (p n h : Nat) (A B : Option Addr) (ca cb kA kB : Nat) (S Z : List Shr) (w : World) (PN : PlanN p n h) (hB : Bases w) (hA : ShP P w A ca S) (hM : ShP P' w B cb Z) (hsS : Short S) (hsZ : Short Z) (hkA : kA = S.length) (hkB : kB = Z.length) (hl : S.length ≤ 100000) (hl2 : Z.length ≤ 100000) :
    Calls Tryd.prog 25 #[planV p n h, .slice A kA ca, .slice B kB cb] w (ShErr (shL (aT p h S Z)) (aE p h S Z) w) := by
  subst hkA hkB
  cases hgS : gdB p h S with
  | false =>
    have he : aE p h S Z = 1 := by unfold aE; rw [hgS]; rfl
    have ht : aT p h S Z = [] := by unfold aT; rw [if_neg (by rw [he]; decide)]
    rw [he, ht]
    exact apply_bad1 p n h A B ca cb S Z w hB PN.pl hA hM hsS hsZ hl hl2 hgS
  | true =>
    cases hgZ : gdB p h Z with
    | false =>
      have he : aE p h S Z = 1 := by unfold aE; rw [hgS, hgZ]; rfl
      have ht : aT p h S Z = [] := by unfold aT; rw [if_neg (by rw [he]; decide)]
      rw [he, ht]
      exact apply_bad2 p n h A B ca cb S Z w hB PN.pl hA hM hsS hsZ hl hl2 ⟨hgS, hgZ⟩
    | true =>
      obtain ⟨eS, gS⟩ := gd_nat (gdB_of hgS)
      obtain ⟨eZ, gZ⟩ := gd_nat (gdB_of hgZ)
      have he : aE p h S Z = apE (natL S) (natL Z) := by unfold aE; rw [hgS, hgZ]; rfl
      have hT : aT p h S Z = apL p (natL S) (natL Z) := by unfold aT apL; rw [he]
      rw [he, hT, ← natL_len S, ← natL_len Z]
      rw [eS] at hA
      rw [eZ] at hM
      rw [← natL_len] at hl hl2
      cases hno : apOk (natL S) (natL Z) with
      | false => exact apply_missing p n h A B ca cb _ _ _ _ w PN.pv hB PN.pl gS gZ hA hM rfl rfl hl hl2 hno
      | true =>
        by_cases hq : (natL S).length = 0 ∨ (vN (natL S) 0).length = (vN (natL Z) 0).length
        · exact apply_ok p n h A B ca cb _ _ _ _ w PN.pv hB PN.pl gS gZ hA hM rfl rfl hl hl2 hno hq
        · exact apply_range p n h A B ca cb _ _ _ _ w PN.pv hB PN.pl gS gZ hA hM rfl rfl hl hl2 hno (by omega) (by omega)
end Go.Proofs.YtlhipgejiacklaaDoor
namespace Go.Proofs.YtlhipgejiacklaaDoor
open Go.RowKit

/-! ### Lists of lists of shares in memory -/
def lsAt (Ls : List (List Shr)) (k : Nat) : List Shr := Ls.getD k []
structure ListsP (P : Nat → Prop) (w : World) (A : Option Addr) (c : Nat) (Ls : List (List Shr)) : Prop where
  at_ : ∀ k, k < Ls.length → ∃ b off B c', A = some ⟨b, off, none⟩ ∧ b < w.heap.size ∧ P b ∧ w.cell? ⟨b, off + k, none⟩ = some (.slice B (lsAt Ls k).length c') ∧ ShP P w B c' (lsAt Ls k)
  ok : IOK A c Ls.length
theorem ListsP.keep {P : Nat → Prop} {w w' : World} {A : Option Addr} {c : Nat} {Ls : List (List Shr)} (h : ListsP P w A c Ls) (hk : Kept P w w') : ListsP P w' A c Ls := ⟨fun k hl => by
  obtain ⟨b, off, B, c', hA, hlt, hP, h1, h2⟩ := h.at_ k hl
  exact ⟨b, off, B, c', hA, Nat.lt_of_lt_of_le hlt hk.size, hP, (World.cell?_of_block (w := w) (hk.block b hP hlt)).trans h1, h2.keep hk⟩, h.ok⟩
theorem ListsP.below {P : Nat → Prop} {w w' : World} {A : Option Addr} {c : Nat} {Ls : List (List Shr)} (h : ListsP P w A c Ls) (hb : Below w.heap.size w w') : ListsP P w' A c Ls := h.keep (Kept.below hb)
theorem ListsP.mono {P Q : Nat → Prop} {w : World} {A : Option Addr} {c : Nat} {Ls : List (List Shr)} (h : ListsP P w A c Ls) (hPQ : ∀ b, b < w.heap.size → P b → Q b) : ListsP Q w A c Ls := ⟨fun k hk => by
  obtain ⟨b, off, B, c', hA, hlt, hP, h1, h2⟩ := h.at_ k hk
  exact ⟨b, off, B, c', hA, hlt, hPQ b hlt hP, h1, h2.mono hPQ⟩, h.ok⟩
def ShortLs (Ls : List (List Shr)) : Prop := ∀ k, k < Ls.length → Short (lsAt Ls k) ∧ (lsAt Ls k).length ≤ 100000

/-! ### What Sum says -/
noncomputable def sumR (p h : Nat) : List Shr → List (List Shr) → List Shr × Int
  | S, [] => (S, 0)
  | S, Z :: r => if aE p h S Z = 0 then sumR p h (shL (aT p h S Z)) r else ([], aE p h S Z)
noncomputable def suE (p h : Nat) (Ls : List (List Shr)) : Int := if Ls.length = 0 then 5 else if gdB p h (lsAt Ls 0) = true then (sumR p h (lsAt Ls 0) (Ls.drop 1)).2 else 1
noncomputable def suL (p h : Nat) (Ls : List (List Shr)) : List Shr := if Ls.length = 0 then [] else if gdB p h (lsAt Ls 0) = true then (sumR p h (lsAt Ls 0) (Ls.drop 1)).1 else []
theorem drop_at {Ls : List (List Shr)} {k : Nat} (h : k < Ls.length) : Ls.drop k = lsAt Ls k :: Ls.drop (k + 1) := by
  rw [List.drop_eq_getElem_cons h]; simp [lsAt, List.getD_eq_getElem?_getD, h]
theorem vN_natL {S : List Shr} {k : Nat} : (vN (natL S) k).length = (vS S k).length := by
  unfold vN vS natL
  simp only [List.getD_eq_getElem?_getD, List.getElem?_map]
  cases S[k]? with
  | none => rfl
  | some s => simp [natS]
theorem shortV {S : List Shr} (h : Short S) (k : Nat) : (vS S k).length ≤ 1048576 := by
  rcases Nat.lt_or_ge k S.length with hk | hk
  · exact h k hk
  · simp [vS, List.getD_eq_getElem?_getD, List.getElem?_eq_none hk]
theorem aT_short {p h : Nat} {S Z : List Shr} (hS : Short S) (hZ : Short Z) : Short (shL (aT p h S Z)) := by
  unfold aT
  split
  · refine short_shL fun k hk => ?_
    rw [apT_len] at hk
    rw [(apT_at hk).2, linN_len, vN_natL, vN_natL]
    have := shortV hS k
    have := shortV hZ (apI (natL Z) (hN (natL S) k))
    omega
  · exact fun k hk => absurd hk (by simp [shL])
theorem aT_len {p h : Nat} {S Z : List Shr} (he : aE p h S Z = 0) : (shL (aT p h S Z)).length = S.length := by
  unfold aT; rw [if_pos he, shL_len, apT_len, natL_len]

set_option maxRecDepth 100000 in
set_option maxHeartbeats 4000000 in
theorem sum_any {P : Nat → Prop} (p n h : Nat) (A : Option Addr) (c kL : Nat) (Ls : List (List Shr)) (w : World) (PN : PlanN p n h) (hB : Bases w) (hA : ListsP P w A c Ls) (hsh : ShortLs Ls) (hk : kL = Ls.length) (hl : Ls.length ≤ 100000) :
    Calls Tryd.prog 24 #[planV p n h, .slice A kL c] w (ShErr (suL p h Ls) (suE p h Ls) w) := by
  subst hk
  have hpa := below_alloc w (.cells #[.int .i64 (p : Int), .int .i64 (n : Int), .int .i64 (h : Int)] 28)
  by_cases h0 : Ls.length = 0
  · have e1 : suE p h Ls = 5 := by unfold suE; rw [if_pos h0]
    have e2 : suL p h Ls = [] := by unfold suL; rw [if_pos h0]
    have t1 : ((Ls.length : Int) == 0) = true := by simp [h0]
    rw [e1, e2]
    clear h0 hA e1 e2
    go_enter Tryd.func24, Tryd.ntmps24
    go_wp2_with fail
    go_ret2
    exact ShErr.nil _ hpa
  · have t1 : ((Ls.length : Int) == 0) = false := by simp; exact fun e => h0 (by rw [e]; rfl)
    have h1 : 0 < Ls.length := by omega
    obtain ⟨b, off, B0, c0, rfl, hb, -, x0, hS0⟩ := hA.at_ 0 h1
    obtain ⟨hs0, hl0⟩ := hsh 0 h1
    have HVA := Lib.hid (fun (W : World) (hb : Below w.heap.size w W) => show Calls Tryd.prog 49 #[planV p n h] W (RetB (.bool true) W) from by have := valid_plan p n h W (hB.below hb hB.1); rw [PN.pl] at this; exact this)
    have HGD := Lib.hid (fun (W : World) (hb : Below w.heap.size w W) => good_any p n h B0 c0 (lsAt Ls 0) W (hS0.below hb) hs0 (by have := PN.h7; omega) (by omega))
    have HOW := Lib.hid (fun (W : World) (hb : Below w.heap.size w W) => own_any B0 (lsAt Ls 0) c0 W (hS0.below hb) hs0 hl0)
    have HPN := Lib.hid PN
    have HBS := Lib.hid hB
    have HA := Lib.hid hA
    have HSH := Lib.hid hsh
    have hx0 := (hpa.cell (p := ⟨b, off, none⟩) hb).trans x0
    have hbz : b < (w.alloc (.cells #[.int .i64 (p : Int), .int .i64 (n : Int), .int .i64 (h : Int)] 28)).heap.size := Nat.lt_of_lt_of_le hb hpa.size
    cases hgd : gdB p h (lsAt Ls 0) with
    | false =>
      have e1 : suE p h Ls = 1 := by unfold suE; rw [if_neg h0, hgd]; rfl
      have e2 : suL p h Ls = [] := by unfold suL; rw [if_neg h0, hgd]; rfl
      rw [e1, e2]
      rw [hgd] at HGD
      generalize hLL : lsAt Ls 0 = S0 at *
      clear h0 hA hsh hS0 hs0 hl0 PN hB e1 e2 hgd x0 hLL
      go_enter Tryd.func24, Tryd.ntmps24
      go_wp2_with fail
      refine gen_world fun w1 hw1 => ?_
      have hpc1 : PlanCell w1 w.heap.size p n h := by rw [hw1]; exact PlanCell.new _ _ _ rfl
      have hb1 : Below w.heap.size w w1 := by rw [hw1]; exact below_alloc _ _
      have z0 : w1.cell? ⟨b, off, none⟩ = some (.slice B0 S0.length c0) := by rw [hw1]; exact hx0
      have lb1 : b < w1.heap.size := Nat.lt_of_lt_of_le hb hb1.size
      have lp1 := hpc1.lt
      have p0 := hpc1.c0
      have p1 := hpc1.c1
      have p2 := hpc1.c2
      have HP := Lib.hid hpc1
      clear hw1 hpc1 hx0 hpa hbz
      go_region_held3 (fun w' => w'.cell? ⟨w.heap.size, 0, none⟩ = some (.int .i64 (p : Int)) ∧ w'.cell? ⟨w.heap.size, 1, none⟩ = some (.int .i64 (n : Int)) ∧ w'.cell? ⟨w.heap.size, 2, none⟩ = some (.int .i64 (h : Int)) ∧ w'.cell? ⟨b, off, none⟩ = some (.slice B0 S0.length c0)) (first | go_keep)
        (first
          | (go_at_call 49; refine ret_below (HVA.out _ hb1.drew) ?_; intro w2 hb2; have hb2' : Below w1.heap.size w1 w2 := (below_undrew1 hb2); have lb2 : b < w2.heap.size := Nat.lt_of_lt_of_le lb1 hb2'.size; have lp2 : w.heap.size < w2.heap.size := Nat.lt_of_lt_of_le lp1 hb2'.size; have q0 := (HP.out.below hb2').c0; have q1 := (HP.out.below hb2').c1; have q2 := (HP.out.below hb2').c2; have qz := (hb2'.cell (p := ⟨b, off, none⟩) lb1).trans z0)
          | (go_at_call 55; refine ret_below (HGD.out _ (below_trans hb1 hb2')) ?_; intro w3 hb3; have hb3' : Below w1.heap.size w1 w3 := below_trans hb2' hb3; have lb3 : b < w3.heap.size := Nat.lt_of_lt_of_le lb1 hb3'.size; have r0 := (HP.out.below hb3').c0; have r1 := (HP.out.below hb3').c1; have r2 := (HP.out.below hb3').c2; have rz := (hb3'.cell (p := ⟨b, off, none⟩) lb1).trans z0))
      have hbw3 := below_trans hb1 hb3'
      have HP3 := Lib.hid (HP.out.below hb3')
      clear p0 p1 p2 z0 q0 q1 q2 qz hb2 hb2' hb3 hb1
      go_wp2_with fail
      go_ret2
      exact ShErr.nil _ hbw3
    | true =>
      have e1 : suE p h Ls = (sumR p h (lsAt Ls 0) (Ls.drop 1)).2 := by unfold suE; rw [if_neg h0, if_pos hgd]
      have e2 : suL p h Ls = (sumR p h (lsAt Ls 0) (Ls.drop 1)).1 := by unfold suL; rw [if_neg h0, if_pos hgd]
      rw [e1, e2]
      rw [hgd] at HGD
      have HS0 := Lib.hid hs0
      have HL0 := Lib.hid hl0
      generalize hLL : lsAt Ls 0 = S0 at *
      obtain ⟨RR, hRR⟩ : ∃ RR, RR = sumR p h S0 (Ls.drop 1) := ⟨_, rfl⟩
      rw [← hRR]
      have HRR := Lib.hid hRR
      clear h0 hA hsh hS0 hs0 hl0 PN hB e1 e2 hgd x0 hLL hRR
      go_enter Tryd.func24, Tryd.ntmps24
      go_wp2_with fail
      refine gen_world fun w1 hw1 => ?_
      have hpc1 : PlanCell w1 w.heap.size p n h := by rw [hw1]; exact PlanCell.new _ _ _ rfl
      have hb1 : Below w.heap.size w w1 := by rw [hw1]; exact below_alloc _ _
      have z0 : w1.cell? ⟨b, off, none⟩ = some (.slice B0 S0.length c0) := by rw [hw1]; exact hx0
      have lb1 : b < w1.heap.size := Nat.lt_of_lt_of_le hb hb1.size
      have lp1 := hpc1.lt
      have p0 := hpc1.c0
      have p1 := hpc1.c1
      have p2 := hpc1.c2
      have HP := Lib.hid hpc1
      clear hw1 hpc1 hx0 hpa hbz
      go_region_held3 (fun w' => w'.cell? ⟨w.heap.size, 0, none⟩ = some (.int .i64 (p : Int)) ∧ w'.cell? ⟨w.heap.size, 1, none⟩ = some (.int .i64 (n : Int)) ∧ w'.cell? ⟨w.heap.size, 2, none⟩ = some (.int .i64 (h : Int)) ∧ w'.cell? ⟨b, off, none⟩ = some (.slice B0 S0.length c0)) (first | go_keep)
        (first
          | (go_at_call 49; refine ret_below (HVA.out _ hb1.drew) ?_; intro w2 hb2; have hb2' : Below w1.heap.size w1 w2 := (below_undrew1 hb2); have lb2 : b < w2.heap.size := Nat.lt_of_lt_of_le lb1 hb2'.size; have lp2 : w.heap.size < w2.heap.size := Nat.lt_of_lt_of_le lp1 hb2'.size; have q0 := (HP.out.below hb2').c0; have q1 := (HP.out.below hb2').c1; have q2 := (HP.out.below hb2').c2; have qz := (hb2'.cell (p := ⟨b, off, none⟩) lb1).trans z0)
          | (go_at_call 55; refine ret_below (HGD.out _ (below_trans hb1 hb2')) ?_; intro w3 hb3; have hb3' : Below w1.heap.size w1 w3 := below_trans hb2' hb3; have lb3 : b < w3.heap.size := Nat.lt_of_lt_of_le lb1 hb3'.size; have r0 := (HP.out.below hb3').c0; have r1 := (HP.out.below hb3').c1; have r2 := (HP.out.below hb3').c2; have rz := (hb3'.cell (p := ⟨b, off, none⟩) lb1).trans z0))
      have hbw3 := below_trans hb1 hb3'
      have HP3 := Lib.hid (HP.out.below hb3')
      clear p0 p1 p2 z0 q0 q1 q2 qz hb2 hb2' hb3 hb1
      go_wp2_with fail
      refine (HOW.out _ hbw3).mono ?_
      rintro e w4 ⟨OA, oc, rfl, hO, hb4⟩
      have hbw4 := below_trans hbw3 hb4
      have HP4 := Lib.hid (HP3.out.below hb4)
      have q0 := HP4.out.c0
      have q1 := HP4.out.c1
      have q2 := HP4.out.c2
      have lp4 := HP4.out.lt
      have HO := Lib.hid (hO.mono (Q := fun b => w.heap.size ≤ b) (fun b _ hb => by have := hbw3.size; omega))
      have hcap := HA.out.ok.len
      obtain ⟨m, hm⟩ : ∃ m, Ls.length = m + 1 := ⟨Ls.length - 1, by omega⟩
      have HMM := Lib.hid hm
      have i0 : (1 : Int) ≤ ((m + 1 : Nat) : Int) := by omega
      have hm2 : m ≤ 100000 := by omega
      have hcap' : m + 1 ≤ c := by omega
      rw [hm]
      clear r0 r1 r2 rz hb4 hO HOW HGD HVA hcap
      generalize hml : Ls.length = LL at *
      have HLS := Lib.hid hml
      clear hml hm h1 t1
      by_cases hc1 : c = 1
      · subst hc1
        have HM0 := Lib.hid (show m = 0 by omega)
        go_wp2_with fail
        go_loopw [6, 32] (fun o i wr => ∃ (k : Nat) (O : List Shr) (OA : Option Addr) (oc : Nat), k ≤ m ∧ i = .int .i64 k ∧ o = .slice OA O.length oc ∧ ShP (fun b => w.heap.size ≤ b) wr OA oc O ∧ Short O ∧ O.length ≤ 100000 ∧ sumR p h O (Ls.drop (k + 1)) = RR ∧ Below w4.heap.size w4 wr) (fun _ i _ => m - (intOf i).toNat)
        case atStart => exact ⟨0, S0, OA, oc, Nat.zero_le _, rfl, rfl, HO.out, HS0.out, HL0.out, HRR.out.symm, Below.refl _ _⟩
        case round =>
          obtain ⟨k, O, OA', oc', hk, rfl, rfl, hO, hOs, hOl, hsr, hbr⟩ := hrel
          have HO' := Lib.hid hO
          have HOS := Lib.hid hOs
          have HSR := Lib.hid hsr
          have hbw := below_trans hbw4 hbr
          have hq := HP4.out.below hbr
          have y0 := hq.c0
          have y1 := hq.c1
          have y2 := hq.c2
          have hwz := hbw.size
          clear hO hOs hsr hq q0 q1 q2
          by_cases hlt : k < m
          · exact absurd hlt (by have := HM0.out; omega)
          · have HEND := Lib.hid (show RR = (O, 0) from by
              have e := HSR.out
              rw [List.drop_eq_nil_of_le (by have := HMM.out; have := HLS.out; omega)] at e
              exact e.symm)
            go_wp2_with fail
            go_ret2
            rw [HEND.out]
            exact ⟨OA', oc', rfl, HO'.out, hbw⟩
      · have HC1 := Lib.hid hc1
        go_wp2_with fail
        go_loopw [6, 32] (fun o i wr => ∃ (k : Nat) (O : List Shr) (OA : Option Addr) (oc : Nat), k ≤ m ∧ i = .int .i64 k ∧ o = .slice OA O.length oc ∧ ShP (fun b => w.heap.size ≤ b) wr OA oc O ∧ Short O ∧ O.length ≤ 100000 ∧ sumR p h O (Ls.drop (k + 1)) = RR ∧ Below w4.heap.size w4 wr) (fun _ i _ => m - (intOf i).toNat)
        case atStart => exact ⟨0, S0, OA, oc, Nat.zero_le _, rfl, rfl, HO.out, HS0.out, HL0.out, HRR.out.symm, Below.refl _ _⟩
        case round =>
          obtain ⟨k, O, OA', oc', hk, rfl, rfl, hO, hOs, hOl, hsr, hbr⟩ := hrel
          have HO' := Lib.hid hO
          have HOS := Lib.hid hOs
          have HSR := Lib.hid hsr
          have hbw := below_trans hbw4 hbr
          have hq := HP4.out.below hbr
          have y0 := hq.c0
          have y1 := hq.c1
          have y2 := hq.c2
          have hwz := hbw.size
          clear hO hOs hsr hq q0 q1 q2
          by_cases hlt : k < m
          · obtain ⟨b', off', Z, zc, hA', hb', -, x1, hZ⟩ := (HA.out.below hbw).at_ (k + 1) (by have := HMM.out; have := HLS.out; omega)
            injection hA' with hA'
            injection hA' with hA1 hA2
            subst hA1 hA2
            obtain ⟨hZs, hZl⟩ := HSH.out (k + 1) (by have := HMM.out; have := HLS.out; omega)
            rw [show off + (k + 1) = off + 1 + k by omega] at x1
            have HDR := Lib.hid (drop_at (Ls := Ls) (k := k + 1) (by have := HMM.out; have := HLS.out; omega))
            have HAP := Lib.hid (apply_any p n h OA' Z oc' zc O.length (lsAt Ls (k + 1)).length O (lsAt Ls (k + 1)) wr HPN.out (HBS.out.below hbw HBS.out.1) HO'.out hZ HOS.out hZs rfl rfl hOl hZl)
            have HSHT := Lib.hid (aT_short (p := p) (h := h) HOS.out hZs)
            generalize hX : lsAt Ls (k + 1) = X at *
            clear hZ hZs hX
            by_cases he : aE p h O X = 0
            · have HTL := Lib.hid (aT_len he)
              have HE := Lib.hid he
              rw [he] at HAP
              clear he
              go_wp2_with fail
              refine HAP.out.mono ?_
              rintro e w5 ⟨NA, nc, rfl, hN, hb5⟩
              have HN := Lib.hid (hN.mono (Q := fun b => w.heap.size ≤ b) (fun b _ hb => by omega))
              have HB5 := Lib.hid (hbr.trans (hb5.mono hbr.size))
              have HS5 := Lib.hid (show sumR p h (shL (aT p h O X)) (Ls.drop (k + 1 + 1)) = RR from by
                have e := HSR.out
                rw [HDR.out] at e
                simp only [sumR] at e
                rw [if_pos HE.out] at e
                exact e)
              clear hN hb5
              go_wp2_with fail
              go_roundw
              case rel => exact ⟨k + 1, _, NA, nc, by omega, by go_num, rfl, HN.out, HSHT.out, by rw [HTL.out]; exact hOl, HS5.out, HB5.out⟩
              case measure => simp [intOf]; omega
            · have HEND := Lib.hid (show RR = ([], aE p h O X) from by
                have e := HSR.out
                rw [HDR.out] at e
                simp only [sumR] at e
                rw [if_neg he] at e
                exact e.symm)
              have HTN := Lib.hid (show aT p h O X = [] from by unfold aT; rw [if_neg he])
              have t5 : (aE p h O X != 0) = true := by simp [he]
              rw [HTN.out] at HAP
              generalize aE p h O X = er at *
              clear he
              go_wp2_with fail
              refine HAP.out.mono ?_
              rintro e w5 ⟨NA, nc, rfl, hN, hb5⟩
              go_wp2_with fail
              go_ret2
              rw [HEND.out]
              exact ShErr.nil _ (below_trans hbw hb5)
          · have HEND := Lib.hid (show RR = (O, 0) from by
              have e := HSR.out
              rw [List.drop_eq_nil_of_le (by have := HMM.out; have := HLS.out; omega)] at e
              exact e.symm)
            go_wp2_with fail
            go_ret2
            rw [HEND.out]
            exact ⟨OA', oc', rfl, HO'.out, hbw⟩
end Go.Proofs.YtlhipgejiacklaaDoor
namespace Go.Proofs.YtlhipgejiacklaaDoor
open Go.RowKit

set_option maxRecDepth 100000 in
set_option maxHeartbeats 4000000 in
theorem same_sh {P P' : Nat → Prop} (A A' : Option Addr) (S : List Shr) (c c' k k' : Nat) (w : World) (hA : ShP P w A c S) (hA' : ShP P' w A' c' S) (hsh : Short S) (hl : S.length ≤ 1048576) (hk : k = S.length) (hk' : k' = S.length) :
    Calls Tryd.prog 30 #[.slice A k c, .slice A' k' c'] w (RetB (.bool true) w) := by
  subst hk
  have hkk : k' = S.length := hk'
  subst hkk
  have HA := Lib.hid hA
  have HA' := Lib.hid hA'
  have HSH := Lib.hid hsh
  have t0 : ((S.length : Int) != (S.length : Int)) = false := by simp
  clear hA hA' hsh hk'
  go_enter Tryd.func30, Tryd.ntmps30
  go_wp2_with fail
  go_loopw [14] (fun i wr => ∃ k : Nat, k ≤ S.length ∧ i = .int .i64 k ∧ Below w.heap.size w wr) (fun i _ => S.length - (intOf i).toNat)
  case atStart => exact ⟨0, Nat.zero_le _, rfl, Below.refl _ _⟩
  case round =>
    obtain ⟨k, hk, rfl, hbr⟩ := hrel
    by_cases hlt : k < S.length
    · obtain ⟨b, off, B, c1, rfl, hb, -, x0, x1, x2⟩ := (HA.out.below hbr).at_ k hlt
      obtain ⟨b', off', B', c1', rfl, hb', -, y0, y1, y2⟩ := (HA'.out.below hbr).at_ k hlt
      have hvl := HSH.out k hlt
      have i1 : (0 : Int) ≤ (k : Int) := by omega
      have i2 : (k : Int) < (S.length : Int) := by omega
      generalize vS S k = L at *
      generalize hS S k = x at *
      have HX := Lib.hid x2
      have HY := Lib.hid y2
      have t1 : (x != x) = false := by simp
      clear x2 y2
      go_wp2_with fail
      refine gen_world fun w1 hw1 => ?_
      have hb1 : Below wr.heap.size wr w1 := by rw [hw1]; exact below_alloc _ _
      have hsc : ShCell w1 wr.heap.size x (.slice B L.length c1) := by rw [hw1]; exact ShCell.new _ _ rfl
      have s0 := hsc.c0
      have s1 := hsc.c1
      have z0 := (hb1.cell (p := ⟨b', off' + k * 2, none⟩) hb').trans y0
      have z1 := (hb1.cell (p := ⟨b', off' + k * 2 + 1, none⟩) hb').trans y1
      have HX1 := Lib.hid ((HX.out.keep (Kept.below hb1)).ints)
      have HY1 := Lib.hid ((HY.out.keep (Kept.below hb1)).ints)
      have hbw := hbr.trans (hb1.mono hbr.size)
      clear hw1 hsc x0 x1 y0 y1
      go_quiet ((go_at_call 29; exact Calls.quiet_of_same (same_refl B B' L c1 c1' _ HX1.out HY1.out (by omega))))
      go_wp2_with fail
      go_roundw
      case rel => exact ⟨k + 1, by omega, by go_num, below_drewN hbw _⟩
      case measure => simp [intOf]; omega
    · go_wp2_with fail
      go_ret
      exact RetB.bool rfl hbr

/-! ### Sums of two lists in order -/
theorem fmul_one {p x : Nat} (h : x < p) : fmul p 1 x = x := by unfold fmul; rw [Nat.one_mul, Nat.mod_eq_of_lt h]
theorem lin_sumV {p : Nat} (hp : 1 ≤ p) {L M : List Nat} (h : L.length = M.length) : linN p L M 1 = sumV p L M 1 := by
  refine extN (by rw [linN_len, sumV_len h, h]; simp) fun i hi => ?_
  rw [linN_len] at hi
  rw [linN_nth hi, sumV_nth hp h (by omega)]
def InOrd (N : List ShN) : Prop := ∀ k, k < N.length → hN N k = k + 1
theorem deal_ord (p n h : Nat) (sec ran : List Nat) : InOrd (dealN p n h sec ran) := fun k hk => by
  rw [deal_len] at hk
  unfold dealN
  rw [(dealtT_at hk).1]
/-- Each share of N and the one of M at the same place. -/
def plusT (p : Nat) (N M : List ShN) : List ShN := (List.range N.length).map fun k => (hN N k, linN p (vN N k) (vN M k) 1)
theorem plusT_len (p : Nat) (N M : List ShN) : (plusT p N M).length = N.length := by simp [plusT]
theorem plusT_at {p k : Nat} {N M : List ShN} (h : k < N.length) : hN (plusT p N M) k = hN N k ∧ vN (plusT p N M) k = linN p (vN N k) (vN M k) 1 := by
  simp [plusT, hN, vN, List.getD_eq_getElem?_getD, h]
theorem plusT_ord {p : Nat} {N M : List ShN} (h : InOrd N) : InOrd (plusT p N M) := fun k hk => by
  rw [plusT_len] at hk
  rw [(plusT_at hk).1]; exact h k hk
/-- What is known of shares of a list that all holders have, in order. -/
structure Full (p n h : Nat) (sec : List Nat) (N : List ShN) : Prop where
  made : Made p n h sec N
  ord : InOrd N
  len : N.length = h
theorem Full.deal {p n h : Nat} {sec ran : List Nat} (P : PlanN p n h) (hs : ∀ x ∈ sec, x < p) (hr : ∀ x ∈ ran, x < p) : Full p n h sec (dealN p n h sec ran) :=
  ⟨deal_Made P hs hr, deal_ord _ _ _ _ _, deal_len _ _ _ _ _⟩
theorem Made.good {p n h : Nat} {sec : List Nat} {N : List ShN} (H : Made p n h sec N) (hp : 1 ≤ p) (hm : sec.length ≤ 2048) : GoodN p h N := by
  obtain ⟨F, h1, h2, h3⟩ := H.ex
  exact h1.good hp hm
theorem Made.vlen {p n h : Nat} {sec : List Nat} {N : List ShN} (H : Made p n h sec N) {k : Nat} (hk : k < N.length) : (vN N k).length = sec.length := by
  obtain ⟨F, h1, h2, h3⟩ := H.ex
  rw [(h1.at_ hk).2.2]; simp
theorem plus_add {p : Nat} {N M : List ShN} (hp : 1 ≤ p) (hl : ∀ k, k < N.length → (vN N k).length = (vN M k).length) : plusT p N M = addT p 1 N M := by
  unfold plusT addT
  refine List.map_congr_left fun k hk => ?_
  have hk := List.mem_range.1 hk
  rw [lin_sumV hp (hl k hk)]
theorem Full.plus {p n h : Nat} {a b : List Nat} {N M : List ShN} (P : PlanN p n h) (H : Full p n h a N) (K : Full p n h b M) (hab : a.length = b.length) : Full p n h (linN p a b 1) (plusT p N M) := by
  have hl : M.length = N.length := K.len.trans H.len.symm
  have e : plusT p N M = addT p 1 N M := plus_add P.p1 (fun k hk => by rw [H.made.vlen hk, K.made.vlen (by omega), hab])
  refine ⟨by rw [e]; exact H.made.add P.p1 K.made hab hl (fun k hk => by rw [H.ord k hk, K.ord k (by omega)]), plusT_ord H.ord, by rw [plusT_len, H.len]⟩
theorem lin_zero {p : Nat} {a : List Nat} (h : ∀ x ∈ a, x < p) : linN p a (List.replicate a.length 0) 1 = a := by
  refine extN (by rw [linN_len]; simp) fun i hi => ?_
  rw [linN_len] at hi
  rw [linN_nth hi]
  have hi' : i < a.length := by simpa using hi
  have : nthN (List.replicate a.length 0) i = 0 := by simp [nthN, List.getD_eq_getElem?_getD, hi']
  rw [this]
  unfold fadd fmul
  rw [Nat.mul_zero, Nat.zero_mod, Nat.add_zero, Nat.mod_eq_of_lt (h _ (nthN_mem hi'))]
end Go.Proofs.YtlhipgejiacklaaDoor
