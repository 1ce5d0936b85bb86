/-
  Shares that lie on polynomials: they are good, give the values at 0, and fit; dealt shares; the sanity check.
-/
import Derived.Test.YtkjpnhhkebbmdaaDoorShU
namespace Go.Proofs.YtkjpnhhkebbmdaaDoor
open Go.RowKit

attribute [local go_sem high] sliced_low
/-- All shares are the values of the polynomials F at their holders. -/
structure OnP (p h m : Nat) (F : Nat → List Nat) (N : List ShN) : Prop where
  on : ∀ s ∈ N, 1 ≤ s.1 ∧ s.1 ≤ h ∧ s.2 = (List.range m).map fun i => evN p (F i) s.1
  nd : (hsN N).Nodup
theorem mem_at {N : List ShN} {k : Nat} (hk : k < N.length) : (hN N k, vN N k) ∈ N := by rw [← getD_at hk]; exact List.getElem_mem hk
theorem OnP.at_ {p h m : Nat} {F : Nat → List Nat} {N : List ShN} (H : OnP p h m F N) {k : Nat} (hk : k < N.length) : 1 ≤ hN N k ∧ hN N k ≤ h ∧ vN N k = (List.range m).map fun i => evN p (F i) (hN N k) := H.on _ (mem_at hk)
theorem OnP.good {p h m : Nat} {F : Nat → List Nat} {N : List ShN} (H : OnP p h m F N) (hp : 1 ≤ p) (hm : m ≤ 2048) : GoodN p h N := by
  have hl : ∀ k, k < N.length → (vN N k).length = m := fun k hk => by rw [(H.at_ hk).2.2]; simp
  refine ⟨fun k hk => ⟨(H.at_ hk).1, (H.at_ hk).2.1, fun x hx => ?_⟩, fun k hk => by rw [hl k hk, hl 0 (by omega)], fun k hk => by rw [hl k hk]; exact hm, H.nd⟩
  rw [(H.at_ hk).2.2] at hx
  obtain ⟨i, -, rfl⟩ := List.mem_map.1 hx
  exact evN_lt hp _ _
theorem OnP.sub {p h m : Nat} {F : Nat → List Nat} {N M : List ShN} (H : OnP p h m F N) (hs : M.Sublist N) : OnP p h m F M := ⟨fun s h => H.on s (hs.subset h), H.nd.sublist (hs.map _)⟩
theorem OnP.take {p h m : Nat} {F : Nat → List Nat} {N : List ShN} (H : OnP p h m F N) (n : Nat) : OnP p h m F (N.take n) := H.sub (List.take_sublist _ _)
theorem OnP.perm {p h m : Nat} {F : Nat → List Nat} {N M : List ShN} (H : OnP p h m F N) (hs : M.Perm N) : OnP p h m F M := ⟨fun s h => H.on s (hs.subset h), (hs.map Prod.fst).nodup_iff.2 H.nd⟩
theorem OnP.val {p h m : Nat} {F : Nat → List Nat} {N : List ShN} (H : OnP p h m F N) {k i : Nat} (hk : k < N.length) (hi : i < m) : nthN (vN N k) i = evN p (F i) (hN N k) := by
  rw [(H.at_ hk).2.2, nthN_eq (by simpa using hi)]; simp
theorem OnP.weigh {p h m n : Nat} {F : Nat → List Nat} {N : List ShN} (H : OnP p h m F N) (hp : PrimeN p) (hh : h < p) (hn : n ≤ N.length) (hF : ∀ i, i < m → (F i).length ≤ n) {i : Nat} (hi : i < m) (x : Nat) :
    wgN p (wsN p (hsN (N.take n)) x) (colN (N.take n) i) n = evN p (F i) x := by
  have hT := H.take n
  have hl : (N.take n).length = n := by rw [List.length_take]; omega
  have hlt : ∀ y ∈ hsN (N.take n), y < p := fun y hy => by
    obtain ⟨s, hs, rfl⟩ := List.mem_map.1 hy
    have := hT.on s hs; omega
  have := interpN (L := F i) (ys := colN (N.take n) i) hp hlt hT.nd (by rw [hsN_len, hl]; exact hF i hi) (fun k hk => by
    rw [hsN_len] at hk
    rw [colN_nth hk, hsN_nth hk, hT.val hk hi]) x
  rw [hsN_len, hl] at this; exact this
theorem OnP.comb {p h m n : Nat} {F : Nat → List Nat} {N : List ShN} (H : OnP p h m F N) (hp : PrimeN p) (hh : h < p) (h1 : 1 ≤ n) (hn : n ≤ N.length) (hF : ∀ i, i < m → (F i).length ≤ n) :
    combN p n N = (List.range m).map fun i => evN p (F i) 0 := by
  have h0 : (vN N 0).length = m := by rw [(H.at_ (show 0 < N.length by omega)).2.2]; simp
  unfold combN
  rw [h0]
  refine List.map_congr_left fun i hi => ?_
  exact H.weigh hp hh hn hF (List.mem_range.1 hi) 0
theorem OnP.fit {p h m n : Nat} {F : Nat → List Nat} {N : List ShN} (H : OnP p h m F N) (hp : PrimeN p) (hh : h < p) (hn : n ≤ N.length) (hF : ∀ i, i < m → (F i).length ≤ n) : FitP p n N := fun k _ hk2 i hi => by
  have h0 : (vN N 0).length = m := by rw [(H.at_ (show 0 < N.length by omega)).2.2]; simp
  rw [h0] at hi
  unfold fitAt
  rw [H.weigh hp hh hn hF hi, H.val hk2 hi]

/-! ### What the functions say of such shares -/
theorem plB_true {p n h : Nat} (h1 : 1 ≤ n) (h2 : n ≤ h) (h3 : h ≤ 16) (h4 : h < p) (hv : validI (p : Int) = true) : plB p n h = true := (plB_yes ⟨by omega, by omega, by omega, by omega, hv⟩).symm
theorem cm_on {p n h m : Nat} {F : Nat → List Nat} {N : List ShN} (H : OnP p h m F N) (hp : PrimeN p) (hpl : plB p n h = true) (hm : m ≤ 2048) (hn : n ≤ N.length) (hF : ∀ i, i < m → (F i).length ≤ n) :
    cmE p n h (shL N) = 0 ∧ cmL p n h (shL N) = (List.range m).map fun i => evN p (F i) 0 := by
  obtain ⟨l1, l2, l3, l4, -⟩ := of_decide_eq_true hpl
  have hg := (gdB_yes (gd_back (H.good (by omega) hm))).symm
  have he := (cmE_ok hpl hg (by rw [shL_len]; omega)).symm
  exact ⟨he, by rw [cmL_ok he, H.comb hp (by omega) (by omega) hn hF]⟩
theorem cm_few {p n h m : Nat} {F : Nat → List Nat} {N : List ShN} (H : OnP p h m F N) (hpl : plB p n h = true) (hm : m ≤ 2048) (hn : N.length < n) : cmE p n h (shL N) = 5 := by
  obtain ⟨l1, l2, l3, l4, -⟩ := of_decide_eq_true hpl
  exact (cmE_few hpl (gdB_yes (gd_back (H.good (by omega) hm))).symm (by rw [shL_len]; omega)).symm
theorem ft_on {p n h m : Nat} {F : Nat → List Nat} {N : List ShN} (H : OnP p h m F N) (hp : PrimeN p) (hpl : plB p n h = true) (hm : m ≤ 2048) (hF : ∀ i, i < m → (F i).length ≤ n) : ftB p n h (shL N) = true := by
  obtain ⟨l1, l2, l3, l4, -⟩ := of_decide_eq_true hpl
  have hg := (gdB_yes (gd_back (H.good (by omega) hm))).symm
  by_cases hn : (N.length : Int) ≤ n
  · exact (ftB_few hpl hg (by rw [shL_len]; exact hn)).symm
  · have := ftB_more hpl hg (by rw [shL_len]; exact hn)
    rw [natL_shL, Int.toNat_natCast, Int.toNat_natCast] at this
    exact (ftB_yes this (H.fit hp (by omega) (by omega) hF)).symm
/-- Another order of such shares. -/
theorem on_perm {p h m : Nat} {F : Nat → List Nat} {N : List ShN} (H : OnP p h m F N) {Q : List Shr} (hq : Q.Perm (shL N)) : ∃ M, Q = shL M ∧ M.length = N.length ∧ OnP p h m F M := by
  have h1 : (natL Q).Perm N := by have := hq.map natS; rwa [show (shL N).map natS = N from natL_shL N] at this
  have h2 : Q = shL (natL Q) := by
    simp only [shL, natL, List.map_map]
    conv => lhs; rw [← List.map_id Q]
    refine List.map_congr_left fun s hs => ?_
    obtain ⟨t, -, rfl⟩ := List.mem_map.1 (hq.subset hs)
    simp only [Function.comp, natS, shI, Int.toNat_natCast, toNat_ofN, id]
  exact ⟨natL Q, h2, h1.length_eq, H.perm h1⟩

/-! ### Dealt shares -/
theorem evN_at0 {p : Nat} {L : List Nat} (h : ∀ x ∈ L, x < p) (hp : 1 ≤ p) : evN p L 0 = nthN L 0 := by
  cases L with
  | nil => rfl
  | cons c L =>
    have hc := h c (by simp)
    simp only [evN, nthN, List.getD_cons_zero, fmul, fadd, Nat.mul_zero, Nat.zero_mod, Nat.zero_add]
    exact Nat.mod_eq_of_lt hc
theorem polN_zero {sec ran : List Nat} {k i : Nat} : nthN (polN sec ran k i) 0 = nthN sec i := by simp [polN, nthN]
theorem deal_on {p n h : Nat} {sec ran : List Nat} : OnP p h sec.length (fun i => polN sec ran (n - 1) i) (dealN p n h sec ran) := by
  refine ⟨fun s hs => ?_, ?_⟩
  · obtain ⟨j, hj, rfl⟩ := List.mem_map.1 hs
    have := List.mem_range.1 hj
    exact ⟨by simp, by simp only; omega, rfl⟩
  · refine nodup_hsN fun k hk j hj => ?_
    unfold dealN at hk ⊢
    rw [dealtT_len] at hk
    rw [(dealtT_at hk).1, (dealtT_at (show j < h by omega)).1]; omega
theorem deal_len (p n h : Nat) (sec ran : List Nat) : (dealN p n h sec ran).length = h := dealtT_len _ _ _ _ _ _
theorem deal_sec {p n : Nat} {sec ran : List Nat} (hp : 1 ≤ p) (hs : ∀ x ∈ sec, x < p) (hr : ∀ x ∈ ran, x < p) : (List.range sec.length).map (fun i => evN p (polN sec ran (n - 1) i) 0) = sec := by
  refine extN (by simp) fun k hk => ?_
  simp only [List.length_map, List.length_range] at hk
  rw [nthN_eq (by simpa using hk)]
  simp only [List.getElem_map, List.getElem_range]
  rw [evN_at0 (polN_lt hp hs hr _ _) hp, polN_zero]
theorem polN_le {sec ran : List Nat} {n i : Nat} (h1 : 1 ≤ n) : (polN sec ran (n - 1) i).length ≤ n := Nat.le_trans polN_len (by omega)
theorem dl_nats {p n h : Nat} {sec ran : List Nat} (hpl : plB p n h = true) (hm : sec.length ≤ 2048) (hs : ∀ x ∈ sec, x < p) (hr : ∀ x ∈ ran, x < p) (hl : ran.length = sec.length * (n - 1)) :
    dlE p n h (ofN sec) (ofN ran) = 0 ∧ dlL p n h (ofN sec) (ofN ran) = dealN p n h sec ran := by
  obtain ⟨l1, l2, l3, l4, -⟩ := of_decide_eq_true hpl
  have he : dlE p n h (ofN sec) (ofN ran) = 0 := dlE_ok hpl (by rw [len_ofN]; omega) ⟨nat_inside hs, nat_inside hr, by
    rw [len_ofN, len_ofN, hl, show ((n : Int) - 1) = ((n - 1 : Nat) : Int) by omega]; push_cast; rfl⟩
  exact ⟨he, by unfold dlL; rw [if_pos he, toNat_ofN, toNat_ofN, Int.toNat_natCast, Int.toNat_natCast, Int.toNat_natCast]⟩
theorem deal_nats {p n h : Nat} {A B : Option Addr} {ca cb : Nat} {sec ran : List Nat} {w : World} (hv : primeV p = validI p) (hB : Bases w) (hA : NatsAt w A sec) (hR : NatsAt w B ran) (hok : SlOK B cb ran)
    (hpl : plB p n h = true) (hm : sec.length ≤ 2048) (hs : ∀ x ∈ sec, x < p) (hr : ∀ x ∈ ran, x < p) (hl : ran.length = sec.length * (n - 1)) (hl2 : ran.length ≤ 1048576) :
    Calls Tryd.prog 20 #[planV p n h, .slice A sec.length ca, .slice B ran.length cb] w (ShErr (shL (dealN p n h sec ran)) 0 w) := by
  obtain ⟨e1, e2⟩ := dl_nats hpl hm hs hr hl
  have := dealS_any p n h A B ca cb (ofN sec) (ofN ran) w hv hB hA.ints hR.ints (by rw [len_ofN]; exact hok.iok) (by rw [len_ofN]; omega) (by rw [len_ofN]; exact hl2)
  rw [e1, e2, len_ofN, len_ofN] at this
  exact this

theorem prime_valid {p : Nat} (hp : PrimeN p) (h : p ≤ 1073741824) : primeV p = validI p ∧ validI (p : Int) = true := by
  have h1 := validI_prime hp h
  exact ⟨by rw [h1]; exact (primeV_true h hp).symm, h1⟩
theorem deal_awake : dealN 7 2 3 [3] [1] = [(1, [4]), (2, [5]), (3, [6])] := by decide +kernel
set_option maxRecDepth 100000 in
set_option maxHeartbeats 4000000 in
theorem awake_any (w : World) (hB : Bases w) : Calls Tryd.prog 11 #[] w (RetB (.bool true) w) := by
  obtain ⟨hv, hv2⟩ := prime_valid prime_7 (by omega)
  have hd : ∀ (W : World) (A B : Option Addr), Bases W → NatsAt W A [3] → NatsAt W B [1] → SlOK B 1 [1] → Calls Tryd.prog 20 #[planV 7 2 3, .slice A 1 1, .slice B 1 1] W (ShErr (shL [(1, [4]), (2, [5]), (3, [6])]) 0 W) := fun W A B h1 h2 h3 h4 => by
    have := deal_nats (p := 7) (n := 2) (h := 3) (A := A) (B := B) (ca := 1) (cb := 1) (sec := [3]) (ran := [1]) hv h1 h2 h3 h4 (plB_true (by omega) (by omega) (by omega) (by omega) hv2) (by simp) (by simp) (by simp) (by simp) (by simp)
    rw [deal_awake] at this
    exact this
  have HD := Lib.hid hd
  have HB := Lib.hid hB
  clear hd hB hv hv2
  go_enter Tryd.func11, Tryd.ntmps11
  go_wp2_with fail
  refine (HD.out _ _ _ ((HB.out.keep (below_alloc _ _)).keep (below_alloc _ _)) ((lit1_nats w 3).nats.alloc _) (by exact (lit1_at (w.alloc (.cells #[.int .i64 3] 3)) (w.heap.size + 1) 1 (by simp)).nats) (SlOK.own (lit1_at (w.alloc (.cells #[.int .i64 3] 3)) (w.heap.size + 1) 1 (by simp)) (by unfold maxLen; simp))).mono ?_
  rintro e w1 ⟨A, c, rfl, hS, hb⟩
  have hbw : Below w.heap.size w w1 := below_of_alloc (below_of_alloc (hb.mono (by simp; omega)) (by simp)) (Nat.le_refl _)
  obtain ⟨b, off, B1, c1, rfl, hb1, -, -, z1, n1, -⟩ := hS.nat (show 0 < 3 by omega)
  obtain ⟨b', off', B2, c2, hA2, -, -, -, z2, n2, -⟩ := hS.nat (k := 1) (show 1 < 3 by omega)
  obtain ⟨b'', off'', B3, c3, hA3, -, -, -, z3, n3, -⟩ := hS.nat (k := 2) (show 2 < 3 by omega)
  injection hA2 with e0; injection e0 with e1 e2; subst e1; subst e2
  injection hA3 with e0; injection e0 with e1 e2; subst e1; subst e2
  obtain ⟨x1, o1, rfl, _, y1⟩ := n1 0 (by simp [vN])
  obtain ⟨x2, o2, rfl, _, y2⟩ := n2 0 (by simp [vN])
  obtain ⟨x3, o3, rfl, _, y3⟩ := n3 0 (by simp [vN])
  simp [vN, nthN] at z1 z2 z3 y1 y2 y3
  clear hS n1 n2 n3 hb
  go_wp2_with fail
  go_ret
  exact RetB.bool rfl hbw
end Go.Proofs.YtkjpnhhkebbmdaaDoor
