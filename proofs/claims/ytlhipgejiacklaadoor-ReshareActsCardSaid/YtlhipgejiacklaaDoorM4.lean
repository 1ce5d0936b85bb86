/-
  Shares: the error of a list that is to give a secret; the secret.
  Shares: the secret that shares give.
  Shares: the holders and the values at a place, both at once.
  Shares: the secret that shares give, by the document.
  Shares: whether they fit.
  Shares: whether they fit, by the document.
  Shares: rows of shares of the own; dealers.
  Shares: a dealer of shares without values.
  Conditions: those that each theorem names.
-/
import Derived.Test.YtlhipgejiacklaaDoorM3
import Derived.Deep.RegionHeld3
import Derived.Deep.AppendLies
set_option linter.unusedVariables false
set_option linter.unusedSimpArgs false
namespace Go.Proofs.YtlhipgejiacklaaDoor
open Go.RowKit

/-! ### Good lists are of natural numbers -/
structure GoodN (p h : Nat) (N : List ShN) : Prop where
  rng : ∀ k, k < N.length → 1 ≤ hN N k ∧ hN N k ≤ h ∧ ∀ x ∈ vN N k, x < p
  len : ∀ k, k < N.length → (vN N k).length = (vN N 0).length
  few : ∀ k, k < N.length → (vN N k).length ≤ 2048
  nd : (hsN N).Nodup
def natS (s : Shr) : ShN := (s.1.toNat, s.2.map Int.toNat)
def natL (S : List Shr) : List ShN := S.map natS
theorem natL_len (S : List Shr) : (natL S).length = S.length := by simp [natL]
theorem toNat_ofN (L : List Nat) : (ofN L).map Int.toNat = L := by simp [ofN, Function.comp_def]
theorem natL_shL (N : List ShN) : natL (shL N) = N := by
  simp only [natL, shL, List.map_map]
  conv => rhs; rw [← List.map_id N]
  refine List.map_congr_left fun s _ => ?_
  simp only [Function.comp, natS, shI, Int.toNat_natCast, toNat_ofN, id]
theorem inside_nat {p : Nat} {L : List Int} (h : inside (p : Int) L = true) : ofN (L.map Int.toNat) = L ∧ ∀ x ∈ L.map Int.toNat, x < p := by
  unfold inside at h
  rw [List.all_eq_true] at h
  refine ⟨?_, fun x hx => ?_⟩
  · simp only [ofN, List.map_map]
    conv => rhs; rw [← List.map_id L]
    refine List.map_congr_left fun x hx => ?_
    have := h x hx
    simp only [Bool.and_eq_true, decide_eq_true_eq] at this
    simp only [Function.comp, id]; omega
  · obtain ⟨y, hy, rfl⟩ := List.mem_map.1 hx
    have := h y hy
    simp only [Bool.and_eq_true, decide_eq_true_eq] at this
    omega
theorem nat_inside {p : Nat} {L : List Nat} (h : ∀ x ∈ L, x < p) : inside (p : Int) (ofN L) = true := by
  unfold inside
  rw [List.all_eq_true]
  intro x hx
  obtain ⟨y, hy, rfl⟩ := List.mem_map.1 hx
  have := h y hy
  simp only [Bool.and_eq_true, decide_eq_true_eq]; omega
theorem nodup_hsN {N : List ShN} (h : ∀ k, k < N.length → ∀ j, j < k → hN N j ≠ hN N k) : (hsN N).Nodup := by
  refine List.pairwise_iff_getElem.2 fun i j hi hj hij => ?_
  have e1 : (hsN N)[i] = hN N i := by rw [← nthN_eq hi, hsN_nth (by rw [hsN_len] at hi; exact hi)]
  have e2 : (hsN N)[j] = hN N j := by rw [← nthN_eq hj, hsN_nth (by rw [hsN_len] at hj; exact hj)]
  rw [e1, e2]
  exact h j (by rw [hsN_len] at hj; exact hj) i hij
theorem hsN_ne {N : List ShN} (h : (hsN N).Nodup) {i j : Nat} (hi : i < N.length) (hj : j < N.length) (hij : i ≠ j) : hN N i ≠ hN N j := fun e => by
  have hi' : i < (hsN N).length := by rw [hsN_len]; exact hi
  have hj' : j < (hsN N).length := by rw [hsN_len]; exact hj
  have e1 : (hsN N)[i] = hN N i := by rw [← nthN_eq hi', hsN_nth hi]
  have e2 : (hsN N)[j] = hN N j := by rw [← nthN_eq hj', hsN_nth hj]
  exact hij ((List.getElem_inj (h₀ := hi') (h₁ := hj') h).1 (by rw [e1, e2, e]))
theorem gd_nat {p h : Nat} {S : List Shr} (g : GdP p h S) : S = shL (natL S) ∧ GoodN p h (natL S) := by
  have hst : ∀ k, k < S.length → 1 ≤ hS S k ∧ hS S k ≤ h ∧ inside (p : Int) (vS S k) = true := fun k hk => stB_bd (g k hk).st
  have hk0 : ∀ k, k < S.length → hN (natL S) k = (hS S k).toNat ∧ vN (natL S) k = (vS S k).map Int.toNat := fun k hk => by
    simp [hN, vN, natL, natS, hS, vS, List.getD_eq_getElem?_getD, hk]
  have heq : S = shL (natL S) := by
    refine List.ext_getElem (by rw [shL_len, natL_len]) fun k h1 h2 => ?_
    have hs := hst k h1
    have e1 : S[k] = (hS S k, vS S k) := by simp [hS, vS, List.getD_eq_getElem?_getD, h1]
    simp only [shL, natL, List.getElem_map, natS, shI]
    rw [e1]
    simp only
    rw [(inside_nat hs.2.2).1, Int.toNat_of_nonneg (by omega)]
  refine ⟨heq, fun k hk => ?_, fun k hk => ?_, fun k hk => ?_, nodup_hsN fun k hk j hj => ?_⟩
  · rw [natL_len] at hk
    have hs := hst k hk
    obtain ⟨e1, e2⟩ := hk0 k hk
    rw [e1, e2]
    exact ⟨by omega, by omega, (inside_nat hs.2.2).2⟩
  · rw [natL_len] at hk
    rw [(hk0 k hk).2, (hk0 0 (by omega)).2, List.length_map, List.length_map]; exact (g k hk).len
  · rw [natL_len] at hk
    rw [(hk0 k hk).2, List.length_map]; exact (g k hk).few
  · rw [natL_len] at hk
    have h1 := hst k hk
    have h2 := hst j (by omega)
    have h3 := (g k hk).new j hj
    rw [(hk0 k hk).1, (hk0 j (by omega)).1]; omega
theorem gd_back {p h : Nat} {N : List ShN} (g : GoodN p h N) : GdP p h (shL N) := fun k hk => by
  rw [shL_len] at hk
  obtain ⟨r1, r2, r3⟩ := g.rng k hk
  refine ⟨?_, ?_, ?_, fun j hj => ?_⟩
  · rw [hS_shL hk, vS_shL]
    unfold stB
    rw [decide_eq_true (by omega), decide_eq_true (by omega), nat_inside r3]; rfl
  · rw [vS_shL, vS_shL, len_ofN, len_ofN]; exact g.len k hk
  · rw [vS_shL, len_ofN]; exact g.few k hk
  · rw [hS_shL hk, hS_shL (by omega)]
    have := hsN_ne g.nd (show j < N.length by omega) hk (by omega)
    omega
theorem GoodN.take {p h : Nat} {N : List ShN} (g : GoodN p h N) (n : Nat) (hn : n ≤ N.length) : GoodN p h (N.take n) := by
  have hl : (N.take n).length = n := by rw [List.length_take]; omega
  refine ⟨fun k hk => ?_, fun k hk => ?_, fun k hk => ?_, ?_⟩
  · rw [hN_take (by omega), vN_take (by omega)]; exact g.rng k (by omega)
  · rw [vN_take (by omega), vN_take (by omega)]; exact g.len k (by omega)
  · rw [vN_take (by omega)]; exact g.few k (by omega)
  · have : hsN (N.take n) = (hsN N).take n := by simp [hsN, List.map_take]
    rw [this]; exact g.nd.sublist (List.take_sublist _ _)
theorem GoodN.hlt {p h : Nat} {N : List ShN} (g : GoodN p h N) (hp : h < p) : ∀ y ∈ hsN N, y < p := fun y hy => by
  obtain ⟨s, hs, rfl⟩ := List.mem_map.1 hy
  obtain ⟨k, hk, rfl⟩ := shl_mem hs
  have := g.rng k hk; simp only; omega
theorem GoodN.clt {p h : Nat} {N : List ShN} (g : GoodN p h N) (hp : 1 ≤ p) (i : Nat) : ∀ y ∈ colN N i, y < p := fun y hy => by
  obtain ⟨s, hs, rfl⟩ := List.mem_map.1 hy
  obtain ⟨k, hk, rfl⟩ := shl_mem hs
  exact nthN_lt hp (g.rng k hk).2.2 i

/-! ### The error, the secret -/
noncomputable def cmE (p n h : Int) (S : List Shr) : Int := if plB p n h = true then (if gdB p h S = true then (if (S.length : Int) < n then 5 else 0) else 1) else 1
theorem cmE_pl {p n h : Int} {S : List Shr} (H : plB p n h = false) : 1 = cmE p n h S := by unfold cmE; rw [H]; rfl
theorem cmE_gd {p n h : Int} {S : List Shr} (H : gdB p h S = false) : 1 = cmE p n h S := by unfold cmE; rw [H]; split <;> rfl
theorem cmE_few {p n h : Int} {S : List Shr} (H : plB p n h = true) (H2 : gdB p h S = true) (H3 : (S.length : Int) < n) : 5 = cmE p n h S := by unfold cmE; rw [H, H2]; simp [H3]
theorem cmE_ok {p n h : Int} {S : List Shr} (H : plB p n h = true) (H2 : gdB p h S = true) (H3 : ¬ (S.length : Int) < n) : 0 = cmE p n h S := by unfold cmE; rw [H, H2]; simp [H3]
theorem cmE_zero {p n h : Int} {S : List Shr} (H : cmE p n h S = 0) : plB p n h = true ∧ gdB p h S = true ∧ n ≤ S.length := by
  unfold cmE at H
  split at H
  · split at H
    · split at H
      · cases H
      · exact ⟨by assumption, by assumption, by omega⟩
    · cases H
  · cases H
def combN (p n : Nat) (N : List ShN) : List Nat := (List.range (vN N 0).length).map fun i => wgN p (wsN p (hsN (N.take n)) 0) (colN (N.take n) i) n
theorem combN_len (p n : Nat) (N : List ShN) : (combN p n N).length = (vN N 0).length := by simp [combN]
theorem combN_nth {p n : Nat} {N : List ShN} {i : Nat} (h : i < (vN N 0).length) : nthN (combN p n N) i = wgN p (wsN p (hsN (N.take n)) 0) (colN (N.take n) i) n := by
  rw [nthN_eq (by rw [combN_len]; exact h)]; simp [combN]
theorem combN_take {p n : Nat} {N : List ShN} {i : Nat} (h : i < (vN N 0).length) : (combN p n N).take (i + 1) = (combN p n N).take i ++ [wgN p (wsN p (hsN (N.take n)) 0) (colN (N.take n) i) n] := by
  rw [List.take_succ_eq_append_getElem (by rw [combN_len]; exact h), ← nthN_eq, combN_nth h]
noncomputable def cmL (p n h : Int) (S : List Shr) : List Nat := if cmE p n h S = 0 then combN p.toNat n.toNat (natL S) else []
theorem cmL_no {p n h : Int} {S : List Shr} (H : cmE p n h S ≠ 0) : cmL p n h S = [] := by unfold cmL; rw [if_neg H]
theorem cmL_ok {p n h : Nat} {N : List ShN} (H : cmE p n h (shL N) = 0) : cmL p n h (shL N) = combN p n N := by
  unfold cmL; rw [if_pos H, natL_shL, Int.toNat_natCast, Int.toNat_natCast]

set_option maxRecDepth 100000 in
set_option maxHeartbeats 1000000 in
theorem check_share {P : Nat → Prop} (p n h : Int) (A : Option Addr) (c : Nat) (S : List Shr) (w : World) (hB : Bases w) (hS : ShP P w A c S) (hsh : Short S) (hl : S.length ≤ 1048576) :
    Calls Tryd.prog 88 #[planV p n h, .slice A S.length c] w (RetB (.int .i64 (cmE p n h S)) w) := by
  have hv := valid_plan p n h (w.alloc (.cells #[.int .i64 p, .int .i64 n, .int .i64 h] 28)) (hB.keep (below_alloc _ _))
  have HS := Lib.hid hS
  have HSH := Lib.hid hsh
  clear hS hsh hB
  cases hp : plB p n h with
  | false =>
    have HE := Lib.hid (cmE_pl (S := S) hp)
    rw [hp] at hv
    have HV := Lib.hid hv
    clear hp hv
    go_enter Tryd.func88, Tryd.ntmps88
    go_wp2_with fail
    refine ret_below HV.out ?_
    intro w1 hb1
    go_wp2_with fail
    go_ret
    exact RetB.int HE.out (below_trans (below_alloc _ _) hb1)
  | true =>
    rw [hp] at hv
    have HV := Lib.hid hv
    obtain ⟨-, -, h16, -, -⟩ := of_decide_eq_true hp
    have hg := fun (W : World) (hb : Below w.heap.size w W) => good_any p n h A c S W (HS.out.below hb) HSH.out h16 hl
    cases hq : gdB p h S with
    | false =>
      have HE := Lib.hid (cmE_gd (n := n) hq)
      rw [hq] at hg
      have HG := Lib.hid hg
      clear hp hv hq hg
      go_enter Tryd.func88, Tryd.ntmps88
      go_wp2_with fail
      refine ret_below HV.out ?_
      intro w1 hb1
      have hbw := below_trans (below_alloc _ _) hb1
      have hpl := (PlanCell.new (w := w) p n h rfl).below hb1
      have p0 := hpl.c0
      have p1 := hpl.c1
      have p2 := hpl.c2
      go_wp2_with fail
      refine ret_below (HG.out _ hbw) ?_
      intro w2 hb2
      go_wp2_with fail
      go_ret
      exact RetB.int HE.out (below_trans hbw hb2)
    | true =>
      have HE1 := Lib.hid (fun H => cmE_few hp hq H)
      have HE2 := Lib.hid (fun H => cmE_ok hp hq H)
      rw [hq] at hg
      have HG := Lib.hid hg
      clear hp hv hq hg
      go_enter Tryd.func88, Tryd.ntmps88
      go_wp2_with fail
      refine ret_below HV.out ?_
      intro w1 hb1
      have hbw := below_trans (below_alloc _ _) hb1
      have hpl := (PlanCell.new (w := w) p n h rfl).below hb1
      have p0 := hpl.c0
      have p1 := hpl.c1
      have p2 := hpl.c2
      have HP := Lib.hid hpl
      go_wp2_with fail
      refine ret_below (HG.out _ hbw) ?_
      intro w2 hb2
      have q1 := (HP.out.below hb2).c1
      by_cases hfew : (S.length : Int) < n
      · have HE := Lib.hid (HE1.out (by omega))
        go_wp2_with fail
        go_ret
        exact RetB.int HE.out (below_trans hbw hb2)
      · have HE := Lib.hid (HE2.out (by omega))
        go_wp2_with fail
        go_ret
        exact RetB.int HE.out (below_trans hbw hb2)
end Go.Proofs.YtlhipgejiacklaaDoor
namespace Go.Proofs.YtlhipgejiacklaaDoor
open Go.RowKit

attribute [local go_sem high] sliced_low
/-- append of one number in a region that draws its order, its slice just made. -/
theorem step_app_nat {ops : Array Oper} {o : Oper} {a : Act} {K : Act → World → Prop} {Q : Exit → Act → World → Prop} {E : Prop} (W : World) (hgd : o.guard = none) (s x : Operand)
    (ho : o.op = .call { callee := .builtin .append, args := #[s, x], argTypes := #[22, 22] })
    (w5 : World) (base : Nat) (v : Value) (S : List Nat) (y : Nat) (hs : a.eval s = v) (hx : a.eval x = .slice (some ⟨w5.heap.size, 0, none⟩) 1 1)
    (hW : W.heap = (w5.alloc (.cells #[.int .i64 (y : Int)] 3)).heap ∧ W.os = w5.os ∧ W.tape = w5.tape ∧ W.output = w5.output)
    (hown : w5.ownsRow base 3 1 v S.length (valsN S)) (hl : S.length ≤ 4194304) (hbase : base ≤ w5.heap.size)
    (h : ∀ v' w', w'.ownsRow base 3 1 v' (S ++ [y]).length (valsN (S ++ [y])) → Below base w5 w' → K (a.put o.dst v') w') :
    if Region.wanted o (yielded ops a.tmps) = true then Oper.wp Tryd.prog o a W K Q else E := by
  obtain ⟨i0, hi, hz0, hz1, hz2⟩ := info_parts info_int
  have hownW : W.ownsRow base 3 1 v S.length (valsN S) := by
    obtain ⟨h1, h2⟩ := own_below hown (below_alloc w5 (.cells #[.int .i64 (y : Int)] 3))
    refine ⟨h1, ?_⟩
    rw [hW.1]; exact h2
  have hsz : W.heap.size = w5.heap.size + 1 := by rw [hW.1]; simp
  have hcell : ∀ x, W.cell? x = (w5.alloc (.cells #[.int .i64 (y : Int)] 3)).cell? x := fun x => by unfold World.cell?; rw [hW.1]
  refine step_append_lies _ hgd s x 22 ho base 3 i0 _ 1 8 Tryd.underlying22 hi hz0 hz1 hz2 rfl (by omega) v S.length (valsN S) hs hownW ⟨w5.heap.size, 0, none⟩ 1 1 (valsN [y]) hx rfl (fun j u hu => (hcell _).trans ((lit1_nats w5 y).nats.news rfl j u hu)) (valsN_one [y]) (by omega) (by unfold maxLen; omega) (by omega) (by omega) _ rfl ?_
  intro g cap w' ho' hg _ _
  have hbW : Below base w5 W := ⟨hW.2.1, hW.2.2.1, hW.2.2.2, by omega, fun k hk => by rw [hW.1]; exact heap_alloc_old w5 _ (by omega)⟩
  refine h _ w' ?_ (hbW.trans ((Below.refl _ _).grown hg (by omega) (fun k hk => by have := (hown.lt k hk).1; omega)))
  rw [List.length_append]; simpa [valsN] using ho'
theorem combN_part {p n : Nat} {N : List ShN} {i : Nat} (h : i ≤ (vN N 0).length) : ((combN p n N).take i).length = i := by rw [List.length_take, combN_len]; omega

set_option maxRecDepth 100000 in
set_option maxHeartbeats 4000000 in
theorem combine_any {P : Nat → Prop} (p n h : Int) (A : Option Addr) (c : Nat) (S : List Shr) (w : World) (hv : primeV p = validI p) (hB : Bases w) (hS : ShP P w A c S) (hsh : Short S) (hl : S.length ≤ 1048576) :
    Calls Tryd.prog 52 #[planV p n h, .slice A S.length c] w (ListErr (cmL p n h S) (cmE p n h S) w) := by
  have hck := check_share p n h A c S (w.alloc (.cells #[.int .i64 p, .int .i64 n, .int .i64 h] 28)) (hB.keep (below_alloc _ _)) (hS.below (below_alloc _ _)) hsh hl
  have HS := Lib.hid hS
  clear hS hB
  by_cases he : cmE p n h S = 0
  · obtain ⟨e1, e2, e3⟩ := cmE_zero he
    have hpl := of_decide_eq_true e1
    obtain ⟨q, rfl, hq, hq2⟩ := plan_prime hpl hv
    obtain ⟨l1, l2, l3, l4, -⟩ := hpl
    obtain ⟨n, rfl⟩ := Int.eq_ofNat_of_zero_le (show 0 ≤ n by omega)
    obtain ⟨h, rfl⟩ := Int.eq_ofNat_of_zero_le (show 0 ≤ h by omega)
    obtain ⟨hSN, hg⟩ := gd_nat (gdB_of e2)
    rw [he] at hck
    have HCK := Lib.hid hck
    generalize natL S = N at *
    subst hSN
    rw [shL_len] at HCK e3 hl ⊢
    have hcm := cmL_ok he
    rw [hcm, he]
    have h2 := hq.1
    have hgT := hg.take n (by omega)
    have htl : (N.take n).length = n := by rw [List.length_take]; omega
    have hvl0 := hg.few 0 (by omega)
    have htv : ∀ k, k < (N.take n).length → (vN (N.take n) k).length = (vN N 0).length := fun k hk => by
      rw [vN_take (by omega)]; exact hg.len k (by omega)
    have HHL := Lib.hid (hgT.hlt (show h < q by omega))
    have HCL := Lib.hid (fun i => hgT.clt (show 1 ≤ q by omega) i)
    have HTV := Lib.hid htv
    have hnd := hgT.nd
    have hck0 : ckE (hsN (N.take n)) = 0 := ckE_ok (by rw [hsN_len]; omega) hnd
    have hws : ∀ (W : World) (X : Option Addr) (cx : Nat), NatsAt W X (hsN (N.take n)) → Calls Tryd.prog 76 #[.int .i64 q, .slice X (hsN (N.take n)).length cx, .int .i64 0] W (ListErr (wsN q (hsN (N.take n)) 0) 0 W) := fun W X cx hX => by
      have := weights_any q X (hsN (N.take n)) cx 0 W h2 (by omega) hX HHL.out (by rw [hsN_len]; omega) (by omega)
      rw [wsR_ok hck0, hck0] at this
      exact this
    have HWS := Lib.hid hws
    have hho : ∀ (W : World), Below w.heap.size w W → Calls Tryd.prog 80 #[.slice A n c] W (NewList (hsN (N.take n)) W) := fun W hb => by
      have := holders_any A c (N.take n) W (by rw [← shL_take]; exact (HS.out.below hb).take n) (by omega)
      rw [htl] at this; exact this
    have hva : ∀ (W : World) (i : Nat), Below w.heap.size w W → i < (vN N 0).length → Calls Tryd.prog 87 #[.slice A n c, .int .i64 i] W (NewList (colN (N.take n) i) W) := fun W i hb hi => by
      have := values_any A c (N.take n) i W (by rw [← shL_take]; exact (HS.out.below hb).take n) (by omega) (fun k hk => by rw [HTV.out k hk]; exact hi) (by omega)
      rw [htl] at this; exact this
    have hwl : (wsN q (hsN (N.take n)) 0).length = n := by rw [wsN_len, hsN_len, htl]
    have hcl : ∀ i, (colN (N.take n) i).length = n := fun i => by rw [colN_len, htl]
    have HWL := Lib.hid hwl
    have HCLN := Lib.hid hcl
    have HHO := Lib.hid hho
    have HVA := Lib.hid hva
    have HWSL := Lib.hid (wsN_lt (show 1 ≤ q by omega) (hsN (N.take n)) 0)
    have HCT : Hid (∀ i, i < (vN N 0).length → (combN q n N).take (i + 1) = (combN q n N).take i ++ [wgN q (wsN q (hsN (N.take n)) 0) (colN (N.take n) i) n]) := fun i hi => combN_take hi
    have HCP : Hid (∀ i, i ≤ (vN N 0).length → ((combN q n N).take i).length = i) := fun i hi => combN_part hi
    have HCA : Hid ((combN q n N).take (vN N 0).length = combN q n N) := List.take_of_length_le (by rw [combN_len]; omega)
    have hN0 : 0 < N.length := by omega
    have i1 : (0 : Int) ≤ (n : Int) := by omega
    have i2 : (n : Int) ≤ (c : Int) := by have := HS.out.cap; omega
    have i3 : (0 : Int) < (n : Int) := by omega
    clear hck e1 e2 he hv hg hgT htv hck0 hws hnd htl hho hva hwl hcl hcm hsh
    generalize wsN q (hsN (N.take n)) 0 = WS at *
    generalize hsN (N.take n) = HH at *
    generalize combN q n N = CB at *
    obtain ⟨l0, hl0⟩ : ∃ l0, l0 = (vN N 0).length := ⟨_, rfl⟩
    rw [← hl0] at hvl0 HVA HCT HCP HCA
    have HL0 := Lib.hid hl0
    go_enter Tryd.func52, Tryd.ntmps52
    go_wp2_with fail
    refine ret_below HCK.out ?_
    intro w1 hb1
    have hbw := below_trans (below_alloc _ _) hb1
    have hpl := (PlanCell.new (w := w) q n h rfl).below hb1
    have p0 := hpl.c0
    have p1 := hpl.c1
    have HP := Lib.hid hpl
    have lp := hpl.lt
    clear hpl hb1 hl0
    go_wp2_with fail
    go_region_held3 (fun w' => w'.cell? ⟨w.heap.size, 0, none⟩ = some (.int .i64 (q : Int))) (first | go_keep)
      (first
        | (go_at_call 80; refine (HHO.out _ (by exact hbw.drew)).mono ?_; intro e w2 hnl; obtain ⟨X, cx, rfl, hX, -, -, hb2⟩ := hnl.open_; have k2 := (hb2.cell (p := ⟨w.heap.size, 0, none⟩) lp).trans p0)
        | (go_at_call 76; refine (HWS.out _ X cx (by exact hX)).mono ?_; rintro e w3 ⟨Y, cy, rfl, hY, -, -, hb3⟩; have k3 := (hb3.cell (p := ⟨w.heap.size, 0, none⟩) (Nat.lt_of_lt_of_le lp hb2.size)).trans k2))
    have hb13 : Below w1.heap.size w1 w3 := below_trans (below_undrew1 hb2) hb3
    have hbw3 := below_trans hbw hb13
    have HY := Lib.hid hY
    have HP3 := Lib.hid (HP.out.below hb13)
    have lp3 := hb13.size
    have lw3 := hbw3.size
    clear hX hY hb2 hb3 k2 k3 p0 p1 HHO HWS HCK hbw hb13
    obtain ⟨b, off, B, c0, rfl, hb0, -, z0, z1, -, -⟩ := (HS.out.below hbw3).nat hN0
    rw [← HL0.out, Nat.zero_mul, Nat.add_zero] at z1
    clear z0
    have hwg : ∀ (j : Nat) (W : World) (V : Option Addr) (cv : Nat), NatsAt W Y WS → NatsAt W V (colN (N.take n) j) → Calls Tryd.prog 86 #[.int .i64 q, .slice Y WS.length cy, .slice V (colN (N.take n) j).length cv] W (Ret (.int .i64 (wgN q WS (colN (N.take n) j) n : Nat)) W) := fun j W V cv h1 h2 => by
      have := weigh_any q Y V WS (colN (N.take n) j) cy cv W (by omega) (by omega) h1 h2 HWSL.out (HCL.out j) (by rw [HWL.out, HCLN.out]; omega) (by rw [HCLN.out]; omega)
      rw [HWL.out] at this ⊢; exact this
    have HWG := Lib.hid hwg
    clear hwg
    go_wp2_with fail
    go_loopw [9, 34] (fun o i wr => ∃ j : Nat, j ≤ l0 ∧ i = .int .i64 j ∧ wr.ownsRow w3.heap.size 3 1 o (CB.take j).length (valsN (CB.take j)) ∧ Below w3.heap.size w3 wr) (fun _ i _ => l0 - (intOf i).toNat)
    case atStart => exact ⟨0, Nat.zero_le _, rfl, World.ownsRow_nil _ _ _ _, Below.refl _ _⟩
    case round =>
      obtain ⟨j, hj, rfl, hown, hbr⟩ := hrel
      obtain ⟨OA, oc, rfl, -, -, -⟩ := own_sl hown rfl
      have hsz := hbr.size
      have hbwr := below_trans hbw3 hbr
      by_cases hlt : j < l0
      · have hpr := HP3.out.below hbr
        have q0 := hpr.c0
        have lpr := hpr.lt
        have HT := Lib.hid (HCT.out j hlt)
        have hln : (CB.take j).length ≤ 2048 := by rw [HCP.out j hj]; omega
        have HOW := Lib.hid hown
        have HYr := Lib.hid (HY.out.below hbr)
        clear hown hpr
        generalize CB.take j = O at *
        have HWGj := Lib.hid (HWG.out j)
        have HVAj := Lib.hid (fun W hb => HVA.out W j hb hlt)
        generalize colN (N.take n) j = CC at *
        generalize wgN q WS CC n = y at *
        go_wp2_with fail
        go_region_held3 (fun w' => w'.cell? ⟨w.heap.size, 0, none⟩ = some (.int .i64 (q : Int))) (first | go_keep)
          (first
            | (go_at_call 87; refine (HVAj.out _ (by exact hbwr.drew)).mono ?_; intro e w4 hnl; obtain ⟨V, cv, rfl, hV, -, -, hb4⟩ := hnl.open_; have k4 := (hb4.cell (p := ⟨w.heap.size, 0, none⟩) lpr).trans q0)
            | (go_at_call 86; refine ret_pure (HWGj.out _ V cv (by exact HYr.out.below (below_undrew1 hb4)) (by exact hV)) ?_)
            | (refine step_app_nat _ rfl (.tmp 37) (.tmp 45) rfl w4 w3.heap.size (.slice OA O.length oc) O y rfl rfl ⟨rfl, rfl, rfl, rfl⟩ (own_below HOW.out (below_undrew1 hb4)) (by omega) (by have := (below_undrew1 hb4).size; omega) ?_; intro v5 w5 hown5 hb5; have k5 := (hb5.cell (p := ⟨w.heap.size, 0, none⟩) (Nat.lt_of_lt_of_le lp lp3)).trans k4))
        all_goals
          go_wp2_with fail
          go_roundw
          case rel => exact ⟨j + 1, by omega, by go_num, by rw [HT.out]; exact hown5, (hbr.trans ((below_undrew1 hb4).mono hsz)).trans hb5⟩
          case measure => simp [intOf]; omega
      · obtain rfl : j = l0 := by omega
        rw [HCA.out] at hown
        rw [HCA.out]
        obtain ⟨OA, oc, hv, hO, hOS, hOb⟩ := own_sl hown rfl
        injection hv with hv1 hv2 hv3
        subst hv1; subst hv3
        have HO := Lib.hid (And.intro hO (And.intro hOS hOb))
        clear hown hO hOS hOb hv2
        go_wp2_with fail
        go_ret2
        exact ⟨_, _, rfl, HO.out.1, HO.out.2.1, fun b off e => by have := HO.out.2.2 b off e; omega, hbwr⟩
  · have hcm := cmL_no he
    rw [hcm]
    clear hcm
    generalize cmE p n h S = er at *
    have HCK := Lib.hid hck
    have t1 : ((er : Int) != 0) = true := by simp [he]
    clear hck he hv
    go_enter Tryd.func52, Tryd.ntmps52
    go_wp2_with fail
    refine ret_below HCK.out ?_
    intro w1 hb1
    go_wp2_with fail
    go_ret2
    exact ListErr.nil er (below_trans (below_alloc _ _) hb1)
end Go.Proofs.YtlhipgejiacklaaDoor
namespace Go.Proofs.YtlhipgejiacklaaDoor
open Go.RowKit

/-- Two rows of the own, in blocks that differ. -/
structure Two (w0 W : World) (base lo : Nat) (vx : Value) (X : List Nat) (vy : Value) (Y : List Nat) : Prop where
  ox : W.ownsRow base 3 1 vx X.length (valsN X)
  oy : W.ownsRow base 3 1 vy Y.length (valsN Y)
  ne : ∀ b, vx.ownBlock = some b → vy.ownBlock = some b → False
  below : Below base w0 W
  size : base ≤ W.heap.size
  up : lo ≤ W.heap.size
theorem Two.later {w0 W W' : World} {base lo : Nat} {vx vy : Value} {X Y : List Nat} (h : Two w0 W base lo vx X vy Y) (hb : Below W.heap.size W W') : Two w0 W' base lo vx X vy Y :=
  ⟨own_below h.ox hb, own_below h.oy hb, h.ne, h.below.trans (hb.mono h.size), Nat.le_trans h.size hb.size, Nat.le_trans h.up hb.size⟩
theorem Two.raise {w0 W : World} {base lo lo' : Nat} {vx vy : Value} {X Y : List Nat} (h : Two w0 W base lo vx X vy Y) (hl : lo' ≤ W.heap.size) : Two w0 W base lo' vx X vy Y := ⟨h.ox, h.oy, h.ne, h.below, h.size, hl⟩
theorem Two.alloc {w0 W : World} {base lo : Nat} {vx vy : Value} {X Y : List Nat} (h : Two w0 W base lo vx X vy Y) (o : Obj) : Two w0 (W.alloc o) base lo vx X vy Y := h.later (below_alloc _ _)
theorem Two.swap {w0 W : World} {base lo : Nat} {vx vy : Value} {X Y : List Nat} (h : Two w0 W base lo vx X vy Y) : Two w0 W base lo vy Y vx X := ⟨h.oy, h.ox, fun b e1 e2 => h.ne b e2 e1, h.below, h.size, h.up⟩
theorem Two.drew {w0 W : World} {base lo : Nat} {vx vy : Value} {X Y : List Nat} (h : Two w0 W base lo vx X vy Y) : Two w0 W.drew base lo vx X vy Y := ⟨h.ox, h.oy, h.ne, h.below.drew, h.size, h.up⟩
theorem step_two {ops : Array Oper} {o : Oper} {a : Act} {K : Act → World → Prop} {Q : Exit → Act → World → Prop} {E : Prop} (W : World) (hgd : o.guard = none) (s x : Operand)
    (ho : o.op = .call { callee := .builtin .append, args := #[s, x], argTypes := #[22, 22] })
    (w0 : World) (base lo g : Nat) (vx : Value) (X : List Nat) (vy : Value) (Y : List Nat) (y : Nat) (hs : a.eval s = vx) (hx : a.eval x = .slice (some ⟨g, 0, none⟩) 1 1)
    (hT : Two w0 W base lo vx X vy Y) (hL : NatBlk W g [y]) (hl : X.length ≤ 4194304)
    (h : ∀ v' w', Two w0 w' base lo v' (X ++ [y]) vy Y → (∀ g' L, NatBlk W g' L → (∀ b, vx.ownBlock = some b → b ≠ g') → NatBlk w' g' L) → (∀ q : Addr, q.block < lo → (∀ b, vx.ownBlock = some b → b ≠ q.block) → w'.cell? q = W.cell? q) → W.heap.size ≤ w'.heap.size → K (a.put o.dst v') w') :
    if Region.wanted o (yielded ops a.tmps) = true then Oper.wp Tryd.prog o a W K Q else E := by
  obtain ⟨i0, hi, hz0, hz1, hz2⟩ := info_parts info_int
  refine step_append_lies _ hgd s x 22 ho base 3 i0 _ 1 8 Tryd.underlying22 hi hz0 hz1 hz2 rfl (by omega) vx X.length (valsN X) hs hT.ox ⟨g, 0, none⟩ 1 1 (valsN [y]) hx rfl (hL.nats.news rfl) (valsN_one [y]) (by omega) (by unfold maxLen; omega) (by omega) hT.size _ rfl ?_
  intro g1 cap w' ho' hg hat _
  have hB : Below base W w' := (Below.refl _ _).grown hg hT.size (fun k hk => (hT.ox.lt k hk).1)
  refine h _ w' ⟨by rw [List.length_append]; simpa [valsN] using ho', ?_, ?_, hT.below.trans hB, Nat.le_trans hT.size hg.size, Nat.le_trans hT.up hg.size⟩ ?_ (fun q hq hne => World.cell?_of_block (w := W) (hg.block q.block (Nat.lt_of_lt_of_le hq hT.up) (fun e => hne q.block e.symm rfl))) hg.size
  · refine hT.oy.kept hg ?_
    rcases hy : vy.ownBlock with _ | b
    · exact .inl rfl
    · exact .inr (fun e => hT.ne b e.symm hy)
  · intro b e1 e2
    have hb1 : b = g1 := (Option.some.inj (show some g1 = some b from e1)).symm
    subst hb1
    rcases hat with e | e
    · exact hT.ne b e e2
    · have := (hT.oy.lt b e2).2; omega
  · intro g' L hN hne
    exact (hg.block g' hN.lt (fun e => hne g' e.symm rfl)).trans hN
theorem drew_size (w : World) : w.drew.heap.size = w.heap.size := rfl
theorem NatBlk.drew {w : World} {g : Nat} {L : List Nat} (h : NatBlk w g L) : NatBlk w.drew g L := h
theorem NatBlk.alloc {w : World} {g : Nat} {L : List Nat} (h : NatBlk w g L) (o : Obj) : NatBlk (w.alloc o) g L := h.below (below_alloc _ _)
theorem Two.farx {w0 W : World} {base lo : Nat} {vx vy : Value} {X Y : List Nat} (h : Two w0 W base lo vx X vy Y) (g : Nat) (hg : W.heap.size ≤ g) : ∀ b, vx.ownBlock = some b → b ≠ g := fun b e => by have := (h.ox.lt b e).2; omega

/-- The call returns two new lists. -/
def NewTwo (X Y : List Nat) (w : World) (e : Ending) (w' : World) : Prop :=
  ∃ A c B c', e = .returned (.tuple #[.slice A X.length c, .slice B Y.length c']) ∧ Two w w' w.heap.size w.heap.size (.slice A X.length c) X (.slice B Y.length c') Y

set_option maxRecDepth 100000 in
set_option maxHeartbeats 4000000 in
theorem points_any {P : Nat → Prop} (A : Option Addr) (c : Nat) (N : List ShN) (i : Nat) (w : World) (hS : ShP P w A c (shL N)) (hl : N.length ≤ 1048576) (hi : ∀ k, k < N.length → i < (vN N k).length) (hi2 : i ≤ 1048576) :
    Calls Tryd.prog 65 #[.slice A N.length c, .int .i64 i] w (NewTwo (hsN N) (colN N i) w) := by
  have HS := Lib.hid hS
  have HI := Lib.hid hi
  clear hS hi
  go_enter Tryd.func65, Tryd.ntmps65
  go_wp2_with fail
  go_loopw [6, 7, 12] (fun o1 o2 i' wr => ∃ k : Nat, k ≤ N.length ∧ i' = .int .i64 k ∧ Two w wr w.heap.size w.heap.size o1 (hsN (N.take k)) o2 (colN (N.take k) i)) (fun _ _ i' _ => N.length - (intOf i').toNat)
  case atStart => exact ⟨0, Nat.zero_le _, rfl, World.ownsRow_nil _ _ _ _, World.ownsRow_nil _ _ _ _, fun b e => by simp [Value.ownBlock] at e, Below.refl _ _, Nat.le_refl _, Nat.le_refl _⟩
  case round =>
    obtain ⟨k, hk, rfl, hT⟩ := hrel
    obtain ⟨XA, xc, rfl, -, -, -⟩ := own_sl hT.ox rfl
    obtain ⟨YA, yc, rfl, -, -, -⟩ := own_sl hT.oy rfl
    by_cases hlt : k < N.length
    · obtain ⟨b, off, B, c', rfl, hbl, -, h1, h2, hN, -⟩ := HS.out.nat hlt
      obtain ⟨b2, o2, rfl, hb2, hc2⟩ := hN i (HI.out k hlt)
      have d1 := (hT.below.cell (p := ⟨b, off + k * 2, none⟩) hbl).trans h1
      have d2 := (hT.below.cell (p := ⟨b, off + k * 2 + 1, none⟩) hbl).trans h2
      have d3 := (hT.below.cell (p := ⟨b2, o2 + i, none⟩) hb2).trans hc2
      have hik := HI.out k hlt
      have HT1 := Lib.hid (hsN_take hlt)
      have HT2 := Lib.hid (colN_take (i := i) hlt)
      have hl1 : (hsN (N.take k)).length ≤ 1048576 := by rw [hsN_len]; simp; omega
      have hl2 : (colN (N.take k) i).length ≤ 1048576 := by rw [colN_len]; simp; omega
      have i1 : (0 : Int) ≤ (i : Int) := by omega
      have i2 : (i : Int) < ((vN N k).length : Int) := by omega
      have hsz := hT.size
      have HT := Lib.hid hT
      clear hN hT h1 h2 hc2
      generalize hsN (N.take k) = X at *
      generalize colN (N.take k) i = Y at *
      generalize hN N k = x at *
      generalize nthN (vN N k) i = y at *
      have NX := Lib.hid (fun b e => HT.out.ox.lt b e)
      have NY := Lib.hid (fun b e => HT.out.oy.lt b e)
      go_wp2_with fail
      refine gen_world fun w1 hw1 => ?_
      have hb1 : Below wr.heap.size wr w1 := by rw [hw1]; exact below_alloc _ _
      have hsc : ShCell w1 wr.heap.size x (.slice (some ⟨b2, o2, none⟩) (vN N k).length c') := by rw [hw1]; exact ShCell.new _ _ rfl
      have s0 := hsc.c0
      have s1 := hsc.c1
      have ls := blk_lt hsc
      have hc3 := (hb1.cell (p := ⟨b2, o2 + i, none⟩) (Nat.lt_of_lt_of_le hb2 hsz)).trans d3
      have lb2 : b2 < w1.heap.size := Nat.lt_of_lt_of_le hb2 (Nat.le_trans hsz hb1.size)
      have T0 : Hid (Two w w1 w.heap.size w1.heap.size (.slice XA X.length xc) X (.slice YA Y.length yc) Y) := (HT.out.later hb1).raise (Nat.le_refl _)
      have hw1s : w1.drew.heap.size = w1.heap.size := rfl
      clear hw1 hsc d1 d2 d3
      go_region_held3 (fun w' => w'.cell? ⟨wr.heap.size, 0, none⟩ = some (.int .i64 (x : Int)) ∧ w'.cell? ⟨wr.heap.size, 1, none⟩ = some (.slice (some ⟨b2, o2, none⟩) (vN N k).length c') ∧ w'.cell? ⟨b2, o2 + i, none⟩ = some (.int .i64 (y : Int))) (first | exact ⟨z50, z51, z52⟩ | exact ⟨z60, z61, z62⟩ | go_keep)
        (first
          | (refine step_two _ rfl (.tmp 16) (.tmp 19) rfl w w.heap.size w1.heap.size _ (.slice XA X.length xc) X (.slice YA Y.length yc) Y x rfl rfl (by first | exact (T0.out.alloc _).drew | exact ((T0.out.alloc _).alloc _).drew) (by first | exact (lit1_at _ _ _ (by simp)).drew | exact (NatBlk.alloc (lit1_at _ _ _ (by simp)) _).drew) (by omega) ?_; intro v5 w5 T5 hc5 hk5 hz5; have hy5 := T5.up; have z50 : w5.cell? ⟨wr.heap.size, 0, none⟩ = some (.int .i64 (x : Int)) := (hk5 ⟨wr.heap.size, 0, none⟩ ls (fun b e => Nat.ne_of_lt (NX.out b e).2)).trans (by first | assumption | go_keep); have z51 : w5.cell? ⟨wr.heap.size, 1, none⟩ = some (.slice (some ⟨b2, o2, none⟩) (vN N k).length c') := (hk5 ⟨wr.heap.size, 1, none⟩ ls (fun b e => Nat.ne_of_lt (NX.out b e).2)).trans (by first | assumption | go_keep); have z52 : w5.cell? ⟨b2, o2 + i, none⟩ = some (.int .i64 (y : Int)) := (hk5 ⟨b2, o2 + i, none⟩ lb2 (fun b e => (Nat.ne_of_lt (Nat.lt_of_lt_of_le hb2 (NX.out b e).1)).symm)).trans (by first | assumption | go_keep); have zs5 := T5.size; clear hk5; have l5 : wr.heap.size < w5.heap.size := (by omega); have m5 : b2 < w5.heap.size := (by omega))
          | (refine step_two _ rfl (.tmp 16) (.tmp 19) rfl w w.heap.size w1.heap.size _ (.slice XA X.length xc) X v6 (Y ++ [y]) x rfl rfl (by first | exact T6.swap | exact T6.swap.alloc _) (by first | exact lit1_at _ _ _ (by simp) | exact hc6 _ _ (lit1_at _ _ _ (by simp)).drew (fun b e => by have := (NY.out b e).2; omega) | exact hc6 _ _ (NatBlk.alloc (lit1_at _ _ _ (by simp)) _).drew (fun b e => by have := (NY.out b e).2; omega)) (by omega) ?_; intro v5 w5 T5 hc5 hk5 hz5; have hy5 := T5.up; have z50 : w5.cell? ⟨wr.heap.size, 0, none⟩ = some (.int .i64 (x : Int)) := (hk5 ⟨wr.heap.size, 0, none⟩ ls (fun b e => Nat.ne_of_lt (NX.out b e).2)).trans (by first | assumption | go_keep); have z51 : w5.cell? ⟨wr.heap.size, 1, none⟩ = some (.slice (some ⟨b2, o2, none⟩) (vN N k).length c') := (hk5 ⟨wr.heap.size, 1, none⟩ ls (fun b e => Nat.ne_of_lt (NX.out b e).2)).trans (by first | assumption | go_keep); have z52 : w5.cell? ⟨b2, o2 + i, none⟩ = some (.int .i64 (y : Int)) := (hk5 ⟨b2, o2 + i, none⟩ lb2 (fun b e => (Nat.ne_of_lt (Nat.lt_of_lt_of_le hb2 (NX.out b e).1)).symm)).trans (by first | assumption | go_keep); have zs5 := T5.size; clear hk5; have l5 : wr.heap.size < w5.heap.size := (by omega); have m5 : b2 < w5.heap.size := (by omega))
          | (refine step_two _ rfl (.tmp 21) (.tmp 27) rfl w w.heap.size w1.heap.size _ (.slice YA Y.length yc) Y (.slice XA X.length xc) X y rfl rfl (by first | exact (T0.out.swap.alloc _).drew | exact ((T0.out.swap.alloc _).alloc _).drew) (by first | exact (lit1_at _ _ _ (by simp)).drew | exact (NatBlk.alloc (lit1_at _ _ _ (by simp)) _).drew) (by omega) ?_; intro v6 w6 T6 hc6 hk6 hz6; have hy6 := T6.up; have z60 : w6.cell? ⟨wr.heap.size, 0, none⟩ = some (.int .i64 (x : Int)) := (hk6 ⟨wr.heap.size, 0, none⟩ ls (fun b e => Nat.ne_of_lt (NY.out b e).2)).trans (by first | assumption | go_keep); have z61 : w6.cell? ⟨wr.heap.size, 1, none⟩ = some (.slice (some ⟨b2, o2, none⟩) (vN N k).length c') := (hk6 ⟨wr.heap.size, 1, none⟩ ls (fun b e => Nat.ne_of_lt (NY.out b e).2)).trans (by first | assumption | go_keep); have z62 : w6.cell? ⟨b2, o2 + i, none⟩ = some (.int .i64 (y : Int)) := (hk6 ⟨b2, o2 + i, none⟩ lb2 (fun b e => (Nat.ne_of_lt (Nat.lt_of_lt_of_le hb2 (NY.out b e).1)).symm)).trans (by first | assumption | go_keep); have zs6 := T6.size; clear hk6; have l6 : wr.heap.size < w6.heap.size := (by omega); have m6 : b2 < w6.heap.size := (by omega))
          | (refine step_two _ rfl (.tmp 21) (.tmp 27) rfl w w.heap.size w1.heap.size _ (.slice YA Y.length yc) Y v5 (X ++ [x]) y rfl rfl (by first | exact T5.swap | exact T5.swap.alloc _) (by first | exact lit1_at _ _ _ (by simp) | exact hc5 _ _ (lit1_at _ _ _ (by simp)).drew (fun b e => by have := (NX.out b e).2; omega) | exact hc5 _ _ (NatBlk.alloc (lit1_at _ _ _ (by simp)) _).drew (fun b e => by have := (NX.out b e).2; omega)) (by omega) ?_; intro v6 w6 T6 hc6 hk6 hz6; have hy6 := T6.up; have z60 : w6.cell? ⟨wr.heap.size, 0, none⟩ = some (.int .i64 (x : Int)) := (hk6 ⟨wr.heap.size, 0, none⟩ ls (fun b e => Nat.ne_of_lt (NY.out b e).2)).trans (by first | assumption | go_keep); have z61 : w6.cell? ⟨wr.heap.size, 1, none⟩ = some (.slice (some ⟨b2, o2, none⟩) (vN N k).length c') := (hk6 ⟨wr.heap.size, 1, none⟩ ls (fun b e => Nat.ne_of_lt (NY.out b e).2)).trans (by first | assumption | go_keep); have z62 : w6.cell? ⟨b2, o2 + i, none⟩ = some (.int .i64 (y : Int)) := (hk6 ⟨b2, o2 + i, none⟩ lb2 (fun b e => (Nat.ne_of_lt (Nat.lt_of_lt_of_le hb2 (NY.out b e).1)).symm)).trans (by first | assumption | go_keep); have zs6 := T6.size; clear hk6; have l6 : wr.heap.size < w6.heap.size := (by omega); have m6 : b2 < w6.heap.size := (by omega)))
      all_goals
        go_wp2_with fail
        go_roundw
        case rel => exact ⟨k + 1, by omega, by go_num, by rw [HT1.out, HT2.out]; first | exact T5.raise (by omega) | exact T6.swap.raise (by omega)⟩
        case measure => simp [intOf]; omega
    · obtain rfl : k = N.length := by omega
      rw [List.take_length] at hT
      rw [List.take_length]
      have HT := Lib.hid hT
      clear hT
      go_wp2_with fail
      go_ret2
      exact ⟨_, _, _, _, rfl, HT.out⟩
end Go.Proofs.YtlhipgejiacklaaDoor
namespace Go.Proofs.YtlhipgejiacklaaDoor
open Go.RowKit

attribute [local go_sem high] sliced_low
theorem Two.lists {w w' : World} {base lo : Nat} {A B : Option Addr} {c c' : Nat} {X Y : List Nat} (h : Two w w' base lo (.slice A X.length c) X (.slice B Y.length c') Y) :
    NatsAt w' A X ∧ SlOK A c X ∧ NatsAt w' B Y ∧ SlOK B c' Y := by
  obtain ⟨_, _, hv, h1, h2, -⟩ := own_sl h.ox rfl
  injection hv with e1 _ e3
  subst e1; subst e3
  obtain ⟨_, _, hv, h3, h4, -⟩ := own_sl h.oy rfl
  injection hv with e1 _ e3
  subst e1; subst e3
  exact ⟨h1, h2, h3, h4⟩
/-- The value at a place, from points of which the first Need shares are made. -/
theorem itp_any (p n : Nat) (N : List ShN) (i x : Nat) (A B : Option Addr) (ca cb : Nat) (w : World) (hp : PrimeN p) (hp2 : p ≤ 2147483648) (hn : 0 < n) (hl : N.length = n) (hn2 : n ≤ 1048576) (hnd : (hsN N).Nodup)
    (hh : ∀ y ∈ hsN N, y < p) (hc : ∀ y ∈ colN N i, y < p) (hx : x < p) (h : NatsAt w A (hsN N) ∧ SlOK A ca (hsN N) ∧ NatsAt w B (colN N i) ∧ SlOK B cb (colN N i)) :
    Calls Tryd.prog 66 #[.int .i64 p, .slice A (hsN N).length ca, .slice B (colN N i).length cb, .int .i64 x] w (RetB (.tuple #[.int .i64 (wgN p (wsN p (hsN N) x) (colN N i) n : Nat), .int .i64 0]) w) := by
  have hlh : (hsN N).length = n := by rw [hsN_len, hl]
  have hlc : (colN N i).length = n := by rw [colN_len, hl]
  have := refInterpolate_any p A B (hsN N) (colN N i) ca cb x w hp hp2 h.1 h.2.1 h.2.2.1 hh hc (by omega) (by omega) hx
  have he : itE (hsN N) (colN N i) = 0 := by rw [itE_len (by rw [hlh, hlc])]; exact ckE_ok (by omega) hnd
  rw [itV_ok he, he, hlh] at this
  rw [hlh]
  exact this

set_option maxRecDepth 100000 in
set_option maxHeartbeats 4000000 in
theorem refCombine_any {P : Nat → Prop} (p n h : Int) (A : Option Addr) (c : Nat) (S : List Shr) (w : World) (hv : primeV p = validI p) (hS : ShP P w A c S) (hsh : Short S) (hl : S.length ≤ 1048576) :
    Calls Tryd.prog 27 #[planV p n h, .slice A S.length c] w (ListErr (cmL p n h S) (cmE p n h S) w) := by
  have hva := refValid_plan p n h (w.alloc (.cells #[.int .i64 p, .int .i64 n, .int .i64 h] 28)) hv
  have HS := Lib.hid hS
  have HSH := Lib.hid hsh
  clear hS hsh
  cases hp : plB p n h with
  | false =>
    have he := cmE_pl (S := S) hp
    rw [cmL_no (by rw [← he]; decide), ← he]
    rw [hp] at hva
    have HV := Lib.hid hva
    clear hva hp he hv
    go_enter Tryd.func27, Tryd.ntmps27
    go_wp2_with fail
    refine ret_below HV.out ?_
    intro w1 hb1
    go_wp2_with fail
    go_ret2
    exact ListErr.nil 1 (below_trans (below_alloc _ _) hb1)
  | true =>
    rw [hp] at hva
    have HV := Lib.hid hva
    have hpl := of_decide_eq_true hp
    have hpv : primeV p = true := hv.trans hpl.2.2.2.2
    have hgo := fun (W : World) (hb : Below w.heap.size w W) => refGood_any p n h A c S W hpv (HS.out.below hb) HSH.out hl
    cases hq : gdB p h S with
    | false =>
      have he := cmE_gd (n := n) hq
      rw [cmL_no (by rw [← he]; decide), ← he]
      rw [hq] at hgo
      have HG := Lib.hid hgo
      clear hgo hq hp he hv hpv hva hpl
      go_enter Tryd.func27, Tryd.ntmps27
      go_wp2_with fail
      refine ret_below HV.out ?_
      intro w1 hb1
      have hbw := below_trans (below_alloc _ _) hb1
      have hpc := (PlanCell.new (w := w) p n h rfl).below hb1
      have p0 := hpc.c0
      have p1 := hpc.c1
      have p2 := hpc.c2
      go_wp2_with fail
      refine ret_below (HG.out _ hbw) ?_
      intro w2 hb2
      go_wp2_with fail
      go_ret2
      exact ListErr.nil 1 (below_trans hbw hb2)
    | true =>
      rw [hq] at hgo
      have HG := Lib.hid hgo
      by_cases hfew : (S.length : Int) < n
      · have he := cmE_few hp hq hfew
        rw [cmL_no (by rw [← he]; decide), ← he]
        clear hgo hq hp he hv hpv hva hpl
        go_enter Tryd.func27, Tryd.ntmps27
        go_wp2_with fail
        refine ret_below HV.out ?_
        intro w1 hb1
        have hbw := below_trans (below_alloc _ _) hb1
        have hpc := (PlanCell.new (w := w) p n h rfl).below hb1
        have p0 := hpc.c0
        have p1 := hpc.c1
        have p2 := hpc.c2
        have HP := Lib.hid hpc
        go_wp2_with fail
        refine ret_below (HG.out _ hbw) ?_
        intro w2 hb2
        have q1 := (HP.out.below hb2).c1
        go_wp2_with fail
        go_ret2
        exact ListErr.nil 5 (below_trans hbw hb2)
      · have he := (cmE_ok hp hq hfew).symm
        obtain ⟨q, rfl, hqp, hq2⟩ := plan_prime hpl hv
        obtain ⟨l1, l2, l3, l4, -⟩ := hpl
        obtain ⟨n, rfl⟩ := Int.eq_ofNat_of_zero_le (show 0 ≤ n by omega)
        obtain ⟨h, rfl⟩ := Int.eq_ofNat_of_zero_le (show 0 ≤ h by omega)
        obtain ⟨hSN, hg⟩ := gd_nat (gdB_of hq)
        generalize natL S = N at *
        subst hSN
        rw [cmL_ok he, he]
        rw [shL_len] at hfew hl HG ⊢
        have h2 := hqp.1
        have hgT := hg.take n (by omega)
        have htl : (N.take n).length = n := by rw [List.length_take]; omega
        have hvl0 := hg.few 0 (by omega)
        have htv : ∀ k, k < (N.take n).length → (vN (N.take n) k).length = (vN N 0).length := fun k hk => by
          rw [vN_take (by omega)]; exact hg.len k (by omega)
        have HHL := Lib.hid (hgT.hlt (show h < q by omega))
        have HCL := Lib.hid (fun i => hgT.clt (show 1 ≤ q by omega) i)
        have HTV := Lib.hid htv
        have HND := Lib.hid hgT.nd
        have HTL := Lib.hid htl
        have HQP := Lib.hid hqp
        have hpo : ∀ (W : World) (i : Nat), Below w.heap.size w W → i < (vN N 0).length → Calls Tryd.prog 65 #[.slice A n c, .int .i64 i] W (NewTwo (hsN (N.take n)) (colN (N.take n) i) W) := fun W i hb hi => by
          have := points_any A c (N.take n) i W (by rw [← shL_take]; exact (HS.out.below hb).take n) (by omega) (fun k hk => by rw [HTV.out k hk]; exact hi) (by omega)
          rw [htl] at this; exact this
        have HPO := Lib.hid hpo
        have HIT := Lib.hid (fun (i : Nat) (W : World) (X Y : Option Addr) (cx cy : Nat) h => itp_any q n (N.take n) i 0 X Y cx cy W HQP.out (by omega) (by omega) HTL.out (by omega) HND.out HHL.out (HCL.out i) (by omega) h)
        have HCT : Hid (∀ i, i < (vN N 0).length → (combN q n N).take (i + 1) = (combN q n N).take i ++ [wgN q (wsN q (hsN (N.take n)) 0) (colN (N.take n) i) n]) := fun i hi => combN_take hi
        have HCP : Hid (∀ i, i ≤ (vN N 0).length → ((combN q n N).take i).length = i) := fun i hi => combN_part hi
        have HCA : Hid ((combN q n N).take (vN N 0).length = combN q n N) := List.take_of_length_le (by rw [combN_len]; omega)
        have hN0 : 0 < N.length := by omega
        have i1 : (0 : Int) ≤ (n : Int) := by omega
        have i2 : (n : Int) ≤ (c : Int) := by have := HS.out.cap; omega
        have t3 : decide (N.length < n) = false := decide_eq_false (by omega)
        clear hgo hq hp he hv hpv hva hg hgT htv htl hqp hpo hfew
        generalize combN q n N = CB at *
        obtain ⟨l0, hl0⟩ : ∃ l0, l0 = (vN N 0).length := ⟨_, rfl⟩
        rw [← hl0] at hvl0 HPO HCT HCP HCA
        have HL0 := Lib.hid hl0
        clear hl0
        go_enter Tryd.func27, Tryd.ntmps27
        go_wp2_with fail
        refine ret_below HV.out ?_
        intro w1 hb1
        have hbw := below_trans (below_alloc _ _) hb1
        have hpc := (PlanCell.new (w := w) q n h rfl).below hb1
        have p0 := hpc.c0
        have p1 := hpc.c1
        have p2 := hpc.c2
        have HP := Lib.hid hpc
        clear hpc
        go_wp2_with fail
        refine ret_below (HG.out _ hbw) ?_
        intro w2 hb2
        have hbw2 := below_trans hbw hb2
        have HP2 := Lib.hid (HP.out.below hb2)
        have q1 := HP2.out.c1
        clear p0 p1 p2 hb1 hbw hb2 HP
        obtain ⟨b, off, B, c0, rfl, hb0, -, z0, z1, -, -⟩ := (HS.out.below hbw2).nat hN0
        rw [← HL0.out, Nat.zero_mul, Nat.add_zero] at z1
        clear z0
        go_wp2_with fail
        go_loopw [6, 33] (fun o i wr => ∃ j : Nat, j ≤ l0 ∧ i = .int .i64 j ∧ wr.ownsRow w2.heap.size 3 1 o (CB.take j).length (valsN (CB.take j)) ∧ Below w2.heap.size w2 wr) (fun _ i _ => l0 - (intOf i).toNat)
        case atStart => exact ⟨0, Nat.zero_le _, rfl, World.ownsRow_nil _ _ _ _, Below.refl _ _⟩
        case round =>
          obtain ⟨j, hj, rfl, hown, hbr⟩ := hrel
          obtain ⟨OA, oc, rfl, -, -, -⟩ := own_sl hown rfl
          have hsz := hbr.size
          have hbwr := below_trans hbw2 hbr
          by_cases hlt : j < l0
          · have hpr := HP2.out.below hbr
            have q0 := hpr.c0
            have q2 := hpr.c1
            have HPR := Lib.hid hpr
            have HT := Lib.hid (HCT.out j hlt)
            have hln : (CB.take j).length ≤ 2048 := by rw [HCP.out j hj]; omega
            have HOW := Lib.hid hown
            clear hown hpr q1
            generalize CB.take j = O at *
            have HITj := Lib.hid (HIT.out j)
            have HPOj := Lib.hid (fun W hb => HPO.out W j hb hlt)
            generalize colN (N.take n) j = CC at *
            generalize wgN q (wsN q (hsN (N.take n)) 0) CC n = y at *
            generalize hsN (N.take n) = HH at *
            go_wp2_with fail
            refine (HPOj.out _ hbwr).mono ?_
            rintro e w4 ⟨XA, xc, YA, yc, rfl, hT⟩
            have hb4 := hT.below
            have hL := hT.lists
            have HL := Lib.hid hL
            have q4 := (HPR.out.below hb4).c0
            clear hT hL
            go_wp2_with fail
            refine ret_below (HITj.out _ XA YA xc yc HL.out) ?_
            intro w5 hb5
            have hb45 := below_trans hb4 hb5
            have hown5 := own_below HOW.out hb45
            have hz5 := hb45.size
            go_wp2_with (at_builtin; refine app_nats rfl (.tmp 53) (.tmp 55) rfl (base := w2.heap.size) (S := O) (T := [y]) rfl (hown5.alloc _) rfl ((lit1_at _ _ y (by simp)).nats.news rfl) (by simp; omega) (by simp; omega) ?_; intro v6 w6 hown6 hg6 hb6)
            go_roundw
            case rel => exact ⟨j + 1, by omega, by go_num, by rw [HT.out]; exact hown6, hbr.trans ((hb45.mono hsz).trans (below_of_alloc hb6 (by omega)))⟩
            case measure => simp [intOf]; omega
          · obtain rfl : j = l0 := by omega
            rw [HCA.out] at hown
            rw [HCA.out]
            obtain ⟨OA, oc, hv, hO, hOS, hOb⟩ := own_sl hown rfl
            injection hv with hv1 hv2 hv3
            subst hv1; subst hv3
            have HO := Lib.hid (And.intro hO (And.intro hOS hOb))
            have lw2 := hbw2.size
            clear hown hO hOS hOb hv2 q1
            go_wp2_with fail
            go_ret2
            exact ⟨_, _, rfl, HO.out.1, HO.out.2.1, fun b off e => by have := HO.out.2.2 b off e; omega, hbwr⟩
end Go.Proofs.YtlhipgejiacklaaDoor
namespace Go.Proofs.YtlhipgejiacklaaDoor
open Go.RowKit

attribute [local go_sem high] sliced_low
def fitAt (p n : Nat) (N : List ShN) (k i : Nat) : Prop := wgN p (wsN p (hsN (N.take n)) (hN N k)) (colN (N.take n) i) n = nthN (vN N k) i
def FitP (p n : Nat) (N : List ShN) : Prop := ∀ k, n ≤ k → k < N.length → ∀ i, i < (vN N 0).length → fitAt p n N k i
noncomputable def fitB (p n : Nat) (N : List ShN) : Bool := @decide (FitP p n N) (Classical.propDecidable _)
noncomputable def ftB (p n h : Int) (S : List Shr) : Bool := if plB p n h = true then (if gdB p h S = true then (if (S.length : Int) ≤ n then true else fitB p.toNat n.toNat (natL S)) else false) else false
theorem ftB_pl {p n h : Int} {S : List Shr} (H : plB p n h = false) : false = ftB p n h S := by unfold ftB; rw [H]; rfl
theorem ftB_gd {p n h : Int} {S : List Shr} (H : gdB p h S = false) : false = ftB p n h S := by unfold ftB; rw [H]; split <;> rfl
theorem ftB_few {p n h : Int} {S : List Shr} (H : plB p n h = true) (H2 : gdB p h S = true) (H3 : (S.length : Int) ≤ n) : true = ftB p n h S := by unfold ftB; rw [H, H2]; simp [H3]
theorem ftB_more {p n h : Int} {S : List Shr} (H : plB p n h = true) (H2 : gdB p h S = true) (H3 : ¬ (S.length : Int) ≤ n) : fitB p.toNat n.toNat (natL S) = ftB p n h S := by unfold ftB; rw [H, H2]; simp [H3]
theorem ftB_no {p n : Nat} {N : List ShN} {b : Bool} (H : fitB p n N = b) (k : Nat) (hk1 : n ≤ k) (hk2 : k < N.length) (i : Nat) (hi : i < (vN N 0).length) (hc : ¬ fitAt p n N k i) : false = b := by
  rw [← H]; exact (@decide_eq_false _ (Classical.propDecidable _) (fun g => hc (g k hk1 hk2 i hi))).symm
theorem ftB_yes {p n : Nat} {N : List ShN} {b : Bool} (H : fitB p n N = b) (hc : FitP p n N) : true = b := by
  rw [← H]; exact (@decide_eq_true _ (Classical.propDecidable _) hc).symm
theorem ShP.drop {P : Nat → Prop} {w : World} {b off c n : Nat} {N : List ShN} (h : ShP P w (some ⟨b, off, none⟩) c (shL N)) (hn : n < N.length) : ShP P w (some ⟨b, off + n * 2, none⟩) (c - n) (shL (N.drop n)) := by
  have hc := h.cap
  refine ⟨fun k hk => ?_, ⟨by rw [shL_len, List.length_drop]; omega, Nat.le_trans (Nat.sub_le _ _) h.ok.cap, (fun e => by cases e), .inr (fun a e => by injection e with e; subst e; rfl)⟩⟩
  rw [shL_len, List.length_drop] at hk
  obtain ⟨b', off', B, c', hA, hb, hP, h1, h2, h3⟩ := h.at_ (n + k) (by rw [shL_len]; omega)
  injection hA with e0
  injection e0 with e1 e2
  subst e1; subst e2
  have e1 : hS (shL (N.drop n)) k = hS (shL N) (n + k) := by simp [hS, shL, List.getD_eq_getElem?_getD]
  have e2 : vS (shL (N.drop n)) k = vS (shL N) (n + k) := by simp [vS, shL, List.getD_eq_getElem?_getD]
  refine ⟨b, off + n * 2, B, c', rfl, hb, hP, ?_⟩
  rw [e1, e2, show off + n * 2 + k * 2 = off + (n + k) * 2 by omega]
  exact ⟨h1, h2, h3⟩
theorem hN_drop {N : List ShN} {n k : Nat} : hN (N.drop n) k = hN N (n + k) := by simp [hN, List.getD_eq_getElem?_getD]
theorem vN_drop {N : List ShN} {n k : Nat} : vN (N.drop n) k = vN N (n + k) := by simp [vN, List.getD_eq_getElem?_getD]

set_option maxRecDepth 100000 in
set_option maxHeartbeats 4000000 in
theorem fits_any {P : Nat → Prop} (p n h : Int) (A : Option Addr) (c : Nat) (S : List Shr) (w : World) (hv : primeV p = validI p) (hB : Bases w) (hS : ShP P w A c S) (hsh : Short S) (hl : S.length ≤ 1048576) :
    Calls Tryd.prog 51 #[planV p n h, .slice A S.length c] w (RetB (.bool (ftB p n h S)) w) := by
  have hva : Calls Tryd.prog 49 #[planV p n h] (w.alloc (.cells #[.int .i64 p, .int .i64 n, .int .i64 h] 28)) (RetB (.bool (plB p n h)) (w.alloc (.cells #[.int .i64 p, .int .i64 n, .int .i64 h] 28))) := valid_plan p n h _ (hB.keep (below_alloc _ _))
  have HB := Lib.hid hB
  have HS := Lib.hid hS
  have HSH := Lib.hid hsh
  clear hS hsh hB
  cases hp : plB p n h with
  | false =>
    have HE := Lib.hid (ftB_pl (S := S) hp)
    rw [hp] at hva
    have HV := Lib.hid hva
    clear hva hp hv
    go_enter Tryd.func51, Tryd.ntmps51
    go_wp2_with fail
    refine ret_below HV.out ?_
    intro w1 hb1
    go_wp2_with fail
    go_ret
    exact RetB.bool HE.out (below_trans (below_alloc _ _) hb1)
  | true =>
    rw [hp] at hva
    have HV := Lib.hid hva
    have hpl := of_decide_eq_true hp
    have hpv : primeV p = true := hv.trans hpl.2.2.2.2
    have hgo : ∀ (W : World), Below w.heap.size w W → Calls Tryd.prog 55 #[planV p n h, .slice A S.length c] W (RetB (.bool (gdB p h S)) W) := fun W hb => good_any p n h A c S W (HS.out.below hb) HSH.out hpl.2.2.1 hl
    cases hq : gdB p h S with
    | false =>
      have HE := Lib.hid (ftB_gd (n := n) hq)
      rw [hq] at hgo
      have HG := Lib.hid hgo
      clear hgo hq hp hv hpv hva hpl
      go_enter Tryd.func51, Tryd.ntmps51
      go_wp2_with fail
      refine ret_below HV.out ?_
      intro w1 hb1
      have hbw := below_trans (below_alloc _ _) hb1
      have hpc := (PlanCell.new (w := w) p n h rfl).below hb1
      have p0 := hpc.c0
      have p1 := hpc.c1
      have p2 := hpc.c2
      go_wp2_with fail
      refine ret_below (HG.out _ hbw) ?_
      intro w2 hb2
      go_wp2_with fail
      go_ret
      exact RetB.bool HE.out (below_trans hbw hb2)
    | true =>
      rw [hq] at hgo
      have HG := Lib.hid hgo
      by_cases hfew : (S.length : Int) ≤ n
      · have HE := Lib.hid (ftB_few hp hq hfew)
        clear hgo hq hp hv hpv hva hpl
        go_enter Tryd.func51, Tryd.ntmps51
        go_wp2_with fail
        refine ret_below HV.out ?_
        intro w1 hb1
        have hbw := below_trans (below_alloc _ _) hb1
        have hpc := (PlanCell.new (w := w) p n h rfl).below hb1
        have p0 := hpc.c0
        have p1 := hpc.c1
        have p2 := hpc.c2
        have HP := Lib.hid hpc
        go_wp2_with fail
        refine ret_below (HG.out _ hbw) ?_
        intro w2 hb2
        have q1 := (HP.out.below hb2).c1
        go_wp2_with fail
        go_ret
        exact RetB.bool HE.out (below_trans hbw hb2)
      · have hne := ftB_more hp hq hfew
        obtain ⟨q, rfl, hqp, hq2⟩ := plan_prime hpl hv
        obtain ⟨l1, l2, l3, l4, -⟩ := hpl
        obtain ⟨n, rfl⟩ := Int.eq_ofNat_of_zero_le (show 0 ≤ n by omega)
        obtain ⟨h, rfl⟩ := Int.eq_ofNat_of_zero_le (show 0 ≤ h by omega)
        obtain ⟨hSN, hg⟩ := gd_nat (gdB_of hq)
        generalize natL S = N at *
        subst hSN
        rw [Int.toNat_natCast, Int.toNat_natCast] at hne
        rw [shL_len] at hfew hl HG ⊢
        have h2 := hqp.1
        have hgT := hg.take n (by omega)
        have htl : (N.take n).length = n := by rw [List.length_take]; omega
        have hvl0 := hg.few 0 (by omega)
        have htv : ∀ k, k < (N.take n).length → (vN (N.take n) k).length = (vN N 0).length := fun k hk => by
          rw [vN_take (by omega)]; exact hg.len k (by omega)
        have HHL := Lib.hid (hgT.hlt (show h < q by omega))
        have HCL := Lib.hid (fun i => hgT.clt (show 1 ≤ q by omega) i)
        have HTV := Lib.hid htv
        have HND := Lib.hid hgT.nd
        have HTL := Lib.hid htl
        have HQP := Lib.hid hqp
        have HGN := Lib.hid hg
        have HF1 := Lib.hid (fun k hk1 hk2 i hi hc => ftB_no hne k hk1 hk2 i hi hc)
        have HF2 := Lib.hid (fun hc => ftB_yes hne hc)

        have i1 : (0 : Int) ≤ (n : Int) := by omega
        have i2 : (n : Int) ≤ (c : Int) := by have := HS.out.cap; omega
        have i4 : (n : Int) ≤ (N.length : Int) := by omega
        have t3 : decide (N.length ≤ n) = false := decide_eq_false (by omega)
        clear hgo hq hp hv hpv hva hg hgT htv htl hqp hne
        go_enter Tryd.func51, Tryd.ntmps51
        go_wp2_with fail
        refine ret_below HV.out ?_
        intro w1 hb1
        have hbw := below_trans (below_alloc _ _) hb1
        have hpc := (PlanCell.new (w := w) q n h rfl).below hb1
        have p0 := hpc.c0
        have p1 := hpc.c1
        have p2 := hpc.c2
        have HP := Lib.hid hpc
        clear hpc
        go_wp2_with fail
        refine ret_below (HG.out _ hbw) ?_
        intro w2 hb2
        have hbw2 := below_trans hbw hb2
        have HP2 := Lib.hid (HP.out.below hb2)
        have q1 := HP2.out.c1
        clear p0 p1 p2 hb1 hbw hb2 HP
        have hn0 : 0 < N.length := by omega
        obtain ⟨b, off, B, c0, rfl, hb0, -, -, -, -, -⟩ := (HS.out.below hbw2).nat hn0
        have hcn : ¬ c = n := by have := HS.out.cap; omega
        have HSD := Lib.hid (HS.out.drop (n := n) (by omega))
        have hws : ∀ (W : World) (X : Option Addr) (cx x : Nat), x < q → NatsAt W X (hsN (N.take n)) → Calls Tryd.prog 76 #[.int .i64 q, .slice X (hsN (N.take n)).length cx, .int .i64 x] W (ListErr (wsN q (hsN (N.take n)) x) 0 W) := fun W X cx x hx hX => by
          have hck0 : ckE (hsN (N.take n)) = 0 := ckE_ok (by rw [hsN_len, HTL.out]; omega) HND.out
          have := weights_any q X (hsN (N.take n)) cx x W h2 (by omega) hX HHL.out (by rw [hsN_len, HTL.out]; omega) hx
          rw [wsR_ok hck0, hck0] at this
          exact this
        have hho : ∀ (W : World), Below w.heap.size w W → Calls Tryd.prog 80 #[.slice (some ⟨b, off, none⟩) n c] W (NewList (hsN (N.take n)) W) := fun W hb => by
          have := holders_any (some ⟨b, off, none⟩) c (N.take n) W (by rw [← shL_take]; exact (HS.out.below hb).take n) (by rw [HTL.out]; omega)
          rw [HTL.out] at this; exact this
        have hvs : ∀ (W : World) (i : Nat), Below w.heap.size w W → i < (vN N 0).length → Calls Tryd.prog 87 #[.slice (some ⟨b, off, none⟩) n c, .int .i64 i] W (NewList (colN (N.take n) i) W) := fun W i hb hi => by
          have := values_any (some ⟨b, off, none⟩) c (N.take n) i W (by rw [← shL_take]; exact (HS.out.below hb).take n) (by rw [HTL.out]; omega) (fun k hk => by rw [HTV.out k hk]; exact hi) (by omega)
          rw [HTL.out] at this; exact this
        have hwg : ∀ (x j : Nat) (W : World) (Y V : Option Addr) (cy cv : Nat), NatsAt W Y (wsN q (hsN (N.take n)) x) → NatsAt W V (colN (N.take n) j) → Calls Tryd.prog 86 #[.int .i64 q, .slice Y (wsN q (hsN (N.take n)) x).length cy, .slice V (colN (N.take n) j).length cv] W (Ret (.int .i64 (wgN q (wsN q (hsN (N.take n)) x) (colN (N.take n) j) n : Nat)) W) := fun x j W Y V cy cv h1 h2 => by
          have hwl : (wsN q (hsN (N.take n)) x).length = n := by rw [wsN_len, hsN_len, HTL.out]
          have hcl : (colN (N.take n) j).length = n := by rw [colN_len, HTL.out]
          have := weigh_any q Y V (wsN q (hsN (N.take n)) x) (colN (N.take n) j) cy cv W (by omega) (by omega) h1 h2 (wsN_lt (by omega) _ _) (HCL.out j) (by rw [hwl, hcl]; omega) (by rw [hcl]; omega)
          rw [hwl] at this ⊢; exact this
        have HWS := Lib.hid hws
        have HHO := Lib.hid hho
        have HVS := Lib.hid hvs
        have HWG := Lib.hid hwg
        clear hws hho hvs hwg
        have lp := HP2.out.lt
        go_wp2_with fail
        go_quiet (fail)
        go_wp2_with fail
        go_loopw [37] (fun i wr => ∃ k : Nat, k ≤ N.length - n ∧ i = .int .i64 k ∧ (∀ j, j < k → ∀ i, i < (vN N 0).length → fitAt q n N (n + j) i) ∧ Below w2.heap.size w2 wr) (fun i _ => N.length - n - (intOf i).toNat)
        case atStart => exact ⟨0, Nat.zero_le _, rfl, fun j hj => absurd hj (by omega), below_drewN (Below.refl _ _) _⟩
        case round =>
          obtain ⟨k, hk, rfl, hfit, hbr⟩ := hrel
          have HFK := Lib.hid hfit
          have hbwr := below_trans hbw2 hbr
          clear hfit
          by_cases hlt : k < N.length - n
          · obtain ⟨b', off', B', c', hA, hb', -, g1, g2, hNt, -⟩ := (HSD.out.below hbwr).nat (show k < (N.drop n).length by rw [List.length_drop]; omega)
            injection hA with e0
            injection e0 with e1 e2
            subst e1; subst e2
            rw [hN_drop] at g1
            rw [vN_drop] at g2 hNt
            have hkl := HGN.out.len (n + k) (by omega)
            have hkr := (HGN.out.rng (n + k) (by omega)).2.1
            have HN := Lib.hid hNt
            have HF1k := Lib.hid (fun (i : Nat) (hi : i < (vN N (n + k)).length) => HF1.out (n + k) (by omega) (by omega) i (by rw [← hkl]; exact hi))
            have hfd : ∀ i, fitAt q n N (n + k) i ↔ wgN q (wsN q (hsN (N.take n)) (hN N (n + k))) (colN (N.take n) i) n = nthN (vN N (n + k)) i := fun i => Iff.rfl
            have HFD := Lib.hid hfd
            have hxq : hN N (n + k) < q := by omega
            have HKL := Lib.hid hkl
            have hvl : (vN N (n + k)).length ≤ 2048 := by omega
            generalize hx : hN N (n + k) = x at *
            generalize hL : vN N (n + k) = L at *
            have HXL := Lib.hid (And.intro hx hL)
            clear hNt hx hL hkl hfd
            have hpr := HP2.out.below hbr
            have HPR := Lib.hid hpr
            clear hpr
            go_wp2_with fail
            refine gen_world fun w3 hw3 => ?_
            have hb3 : Below wr.heap.size wr w3 := by rw [hw3]; exact below_alloc _ _
            have hsc : ShCell w3 wr.heap.size x (.slice B' L.length c') := by rw [hw3]; exact ShCell.new _ _ rfl
            have s0 := hsc.c0
            have HSC := Lib.hid hsc
            have p3 := (HPR.out.below hb3).c0
            have hbw3 := below_trans hbwr hb3
            have ls := blk_lt hsc
            have lp3 := (HPR.out.below hb3).lt
            clear hw3 hsc g1 g2
            go_region_held3 (fun w' => w'.cell? ⟨w.heap.size, 0, none⟩ = some (.int .i64 (q : Int)) ∧ w'.cell? ⟨wr.heap.size, 0, none⟩ = some (.int .i64 (x : Int))) (first | go_keep)
              (first
                | (go_at_call 80; refine (HHO.out _ (by exact hbw3.drew)).mono ?_; intro e w4 hnl; obtain ⟨X, cx, rfl, hX, -, -, hb4⟩ := hnl.open_; have k4 := (hb4.cell (p := ⟨w.heap.size, 0, none⟩) lp3).trans p3; have k5 := (hb4.cell (p := ⟨wr.heap.size, 0, none⟩) ls).trans s0)
                | (go_at_call 76; refine (HWS.out _ X cx x hxq (by exact hX)).mono ?_; rintro e w5 ⟨Y, cy, rfl, hY, -, -, hb5⟩; have k6 := (hb5.cell (p := ⟨w.heap.size, 0, none⟩) (Nat.lt_of_lt_of_le lp3 hb4.size)).trans k4; have k7 := (hb5.cell (p := ⟨wr.heap.size, 0, none⟩) (Nat.lt_of_lt_of_le ls hb4.size)).trans k5))
            have hb35 : Below w3.heap.size w3 w5 := below_trans (below_undrew1 hb4) hb5
            have HY := Lib.hid hY
            have hbw5 := below_trans hbw3 hb35
            have HP5 := Lib.hid ((HPR.out.below hb3).below hb35)
            have z1 := (HSC.out.below hb35).c1
            have hbr5 := below_trans hbr (below_trans hb3 hb35)
            have HN5 := Lib.hid ((HN.out.below hb3).below hb35)
            have HWGx := Lib.hid (HWG.out x)
            clear hX hY hb4 hb5 k4 k5 k6 k7 p3 s0
            generalize wsN q (hsN (N.take n)) x = WS at *
            go_wp2_with fail
            go_loopw [54] (fun i wi => ∃ j : Nat, j ≤ L.length ∧ i = .int .i64 j ∧ (∀ i, i < j → fitAt q n N (n + k) i) ∧ Below w5.heap.size w5 wi) (fun i _ => L.length - (intOf i).toNat)
            case atStart => exact ⟨0, Nat.zero_le _, rfl, fun j hj => absurd hj (by omega), Below.refl _ _⟩
            case round =>
              obtain ⟨j, hj, rfl, hfj, hbi⟩ := hrel
              have HFJ := Lib.hid hfj
              have hbwi := below_trans hbw5 hbi
              clear hfj
              by_cases hjl : j < L.length
              · obtain ⟨b2, o2, rfl, hb2, hc2⟩ := (HN5.out.below hbi) j hjl
                have HDj := Lib.hid (HFD.out j)
                have HF1j := Lib.hid (HF1k.out j hjl)
                have hj0 : j < (vN N 0).length := by rw [← HKL.out]; exact hjl
                have HVSj := Lib.hid (fun W hb => HVS.out W j hb hj0)
                have HWGj := Lib.hid (HWGx.out j)
                have p5 := (HP5.out.below hbi).c0
                have lp5 := (HP5.out.below hbi).lt
                have HYi := Lib.hid (HY.out.below hbi)
                generalize colN (N.take n) j = CC at *
                generalize wgN q WS CC n = y at *
                generalize nthN L j = v at *
                by_cases hyv : y = v
                · have t5 : ((y : Int) != (v : Int)) = false := by simp; omega
                  have t6 : (y != v) = false := by simp [hyv]
                  have HOK := Lib.hid (HDj.out.2 hyv)
                  clear hyv
                  go_wp2_with fail
                  go_region_held3 (fun w' => w'.cell? ⟨w.heap.size, 0, none⟩ = some (.int .i64 (q : Int))) (first | go_keep)
                    (first
                      | (go_at_call 87; refine (HVSj.out _ (by exact hbwi.drew)).mono ?_; intro e w6 hnl; obtain ⟨V, cv, rfl, hV, -, -, hb6⟩ := hnl.open_; have k6 := (hb6.cell (p := ⟨w.heap.size, 0, none⟩) lp5).trans p5)
                      | (go_at_call 86; refine ret_pure (HWGj.out _ _ V cy cv (by exact HYi.out.below (below_undrew1 hb6)) (by exact hV)) ?_))
                  all_goals
                    go_wp2_with fail
                    go_roundw
                    case rel =>
                      refine ⟨j + 1, by omega, by go_num, fun i hi => ?_, below_trans hbi (below_undrew1 hb6)⟩
                      by_cases hij : i = j
                      · subst hij; exact HOK.out
                      · exact HFJ.out i (by omega)
                    case measure => simp [intOf]; omega
                · have t5 : ((y : Int) != (v : Int)) = true := by simp; omega
                  have t6 : (y != v) = true := by simp [hyv]
                  have HOK := Lib.hid (HF1j.out (fun h => hyv (HDj.out.1 h)))
                  clear hyv
                  go_wp2_with fail
                  go_region_held3 (fun w' => w'.cell? ⟨w.heap.size, 0, none⟩ = some (.int .i64 (q : Int))) (first | go_keep)
                    (first
                      | (go_at_call 87; refine (HVSj.out _ (by exact hbwi.drew)).mono ?_; intro e w6 hnl; obtain ⟨V, cv, rfl, hV, -, -, hb6⟩ := hnl.open_; have k6 := (hb6.cell (p := ⟨w.heap.size, 0, none⟩) lp5).trans p5)
                      | (go_at_call 86; refine ret_pure (HWGj.out _ _ V cy cv (by exact HYi.out.below (below_undrew1 hb6)) (by exact hV)) ?_))
                  all_goals
                    go_wp2_with fail
                    go_ret
                    exact RetB.bool HOK.out (below_trans hbwi (below_undrew1 hb6))
              · have HAll := Lib.hid (fun i (hi : i < (vN N 0).length) => HFJ.out i (by have := HKL.out; omega))
                go_wp2_with fail
                go_roundw
                case rel =>
                  refine ⟨k + 1, by omega, by go_num, fun i hi => ?_, below_trans hbr5 hbi⟩
                  by_cases hik : i = k
                  · subst hik; exact HAll.out
                  · exact HFK.out i (by omega)
                case measure => simp [intOf]; omega
          · have HE := Lib.hid (HF2.out (fun k' hk1 hk2 i hi => by
              have := HFK.out (k' - n) (by omega) i hi
              rwa [show n + (k' - n) = k' by omega] at this))
            go_wp2_with fail
            go_ret
            exact RetB.bool HE.out hbwr
end Go.Proofs.YtlhipgejiacklaaDoor
namespace Go.Proofs.YtlhipgejiacklaaDoor
open Go.RowKit

attribute [local go_sem high] sliced_low

set_option maxRecDepth 100000 in
set_option maxHeartbeats 4000000 in
theorem refFits_any {P : Nat → Prop} (p n h : Int) (A : Option Addr) (c : Nat) (S : List Shr) (w : World) (hv : primeV p = validI p) (hS : ShP P w A c S) (hsh : Short S) (hl : S.length ≤ 1048576) :
    Calls Tryd.prog 26 #[planV p n h, .slice A S.length c] w (RetB (.bool (ftB p n h S)) w) := by
  have hva : Calls Tryd.prog 63 #[planV p n h] (w.alloc (.cells #[.int .i64 p, .int .i64 n, .int .i64 h] 28)) (RetB (.bool (plB p n h)) (w.alloc (.cells #[.int .i64 p, .int .i64 n, .int .i64 h] 28))) := refValid_plan p n h _ hv
  have HS := Lib.hid hS
  have HSH := Lib.hid hsh
  clear hS hsh
  cases hp : plB p n h with
  | false =>
    have HE := Lib.hid (ftB_pl (S := S) hp)
    rw [hp] at hva
    have HV := Lib.hid hva
    clear hva hp hv
    go_enter Tryd.func26, Tryd.ntmps26
    go_wp2_with fail
    refine ret_below HV.out ?_
    intro w1 hb1
    go_wp2_with fail
    go_ret
    exact RetB.bool HE.out (below_trans (below_alloc _ _) hb1)
  | true =>
    rw [hp] at hva
    have HV := Lib.hid hva
    have hpl := of_decide_eq_true hp
    have hpv : primeV p = true := hv.trans hpl.2.2.2.2
    have hgo : ∀ (W : World), Below w.heap.size w W → Calls Tryd.prog 64 #[planV p n h, .slice A S.length c] W (RetB (.bool (gdB p h S)) W) := fun W hb => refGood_any p n h A c S W hpv (HS.out.below hb) HSH.out hl
    cases hq : gdB p h S with
    | false =>
      have HE := Lib.hid (ftB_gd (n := n) hq)
      rw [hq] at hgo
      have HG := Lib.hid hgo
      clear hgo hq hp hv hpv hva hpl
      go_enter Tryd.func26, Tryd.ntmps26
      go_wp2_with fail
      refine ret_below HV.out ?_
      intro w1 hb1
      have hbw := below_trans (below_alloc _ _) hb1
      have hpc := (PlanCell.new (w := w) p n h rfl).below hb1
      have p0 := hpc.c0
      have p1 := hpc.c1
      have p2 := hpc.c2
      go_wp2_with fail
      refine ret_below (HG.out _ hbw) ?_
      intro w2 hb2
      go_wp2_with fail
      go_ret
      exact RetB.bool HE.out (below_trans hbw hb2)
    | true =>
      rw [hq] at hgo
      have HG := Lib.hid hgo
      by_cases hfew : (S.length : Int) ≤ n
      · have HE := Lib.hid (ftB_few hp hq hfew)
        clear hgo hq hp hv hpv hva hpl
        go_enter Tryd.func26, Tryd.ntmps26
        go_wp2_with fail
        refine ret_below HV.out ?_
        intro w1 hb1
        have hbw := below_trans (below_alloc _ _) hb1
        have hpc := (PlanCell.new (w := w) p n h rfl).below hb1
        have p0 := hpc.c0
        have p1 := hpc.c1
        have p2 := hpc.c2
        have HP := Lib.hid hpc
        go_wp2_with fail
        refine ret_below (HG.out _ hbw) ?_
        intro w2 hb2
        have q1 := (HP.out.below hb2).c1
        go_wp2_with fail
        go_ret
        exact RetB.bool HE.out (below_trans hbw hb2)
      · have hne := ftB_more hp hq hfew
        obtain ⟨q, rfl, hqp, hq2⟩ := plan_prime hpl hv
        obtain ⟨l1, l2, l3, l4, -⟩ := hpl
        obtain ⟨n, rfl⟩ := Int.eq_ofNat_of_zero_le (show 0 ≤ n by omega)
        obtain ⟨h, rfl⟩ := Int.eq_ofNat_of_zero_le (show 0 ≤ h by omega)
        obtain ⟨hSN, hg⟩ := gd_nat (gdB_of hq)
        generalize natL S = N at *
        subst hSN
        rw [Int.toNat_natCast, Int.toNat_natCast] at hne
        rw [shL_len] at hfew hl HG ⊢
        have h2 := hqp.1
        have hgT := hg.take n (by omega)
        have htl : (N.take n).length = n := by rw [List.length_take]; omega
        have hvl0 := hg.few 0 (by omega)
        have htv : ∀ k, k < (N.take n).length → (vN (N.take n) k).length = (vN N 0).length := fun k hk => by
          rw [vN_take (by omega)]; exact hg.len k (by omega)
        have HHL := Lib.hid (hgT.hlt (show h < q by omega))
        have HCL := Lib.hid (fun i => hgT.clt (show 1 ≤ q by omega) i)
        have HTV := Lib.hid htv
        have HND := Lib.hid hgT.nd
        have HTL := Lib.hid htl
        have HQP := Lib.hid hqp
        have HGN := Lib.hid hg
        have HF1 := Lib.hid (fun k hk1 hk2 i hi hc => ftB_no hne k hk1 hk2 i hi hc)
        have HF2 := Lib.hid (fun hc => ftB_yes hne hc)

        have i1 : (0 : Int) ≤ (n : Int) := by omega
        have i2 : (n : Int) ≤ (c : Int) := by have := HS.out.cap; omega
        have i4 : (n : Int) ≤ (N.length : Int) := by omega
        have t3 : decide (N.length ≤ n) = false := decide_eq_false (by omega)
        clear hgo hq hp hv hpv hva hg hgT htv htl hqp hne
        go_enter Tryd.func26, Tryd.ntmps26
        go_wp2_with fail
        refine ret_below HV.out ?_
        intro w1 hb1
        have hbw := below_trans (below_alloc _ _) hb1
        have hpc := (PlanCell.new (w := w) q n h rfl).below hb1
        have p0 := hpc.c0
        have p1 := hpc.c1
        have p2 := hpc.c2
        have HP := Lib.hid hpc
        clear hpc
        go_wp2_with fail
        refine ret_below (HG.out _ hbw) ?_
        intro w2 hb2
        have hbw2 := below_trans hbw hb2
        have HP2 := Lib.hid (HP.out.below hb2)
        have q1 := HP2.out.c1
        clear p0 p1 p2 hb1 hbw hb2 HP
        have hn0 : 0 < N.length := by omega
        obtain ⟨b, off, B, c0, rfl, hb0, -, z0, z1, -, -⟩ := (HS.out.below hbw2).nat hn0
        rw [Nat.zero_mul, Nat.add_zero] at z1
        clear z0
        have hcn : ¬ c = n := by have := HS.out.cap; omega
        have HSD := Lib.hid (HS.out.drop (n := n) (by omega))
        have hpo : ∀ (W : World) (i : Nat), Below w.heap.size w W → i < (vN N 0).length → Calls Tryd.prog 65 #[.slice (some ⟨b, off, none⟩) n c, .int .i64 i] W (NewTwo (hsN (N.take n)) (colN (N.take n) i) W) := fun W i hb hi => by
          have := points_any (some ⟨b, off, none⟩) c (N.take n) i W (by rw [← shL_take]; exact (HS.out.below hb).take n) (by rw [HTL.out]; omega) (fun k hk => by rw [HTV.out k hk]; exact hi) (by omega)
          rw [HTL.out] at this; exact this
        have HPO := Lib.hid hpo
        have HIT := Lib.hid (fun (i x : Nat) (hx : x < q) (W : World) (X Y : Option Addr) (cx cy : Nat) h => itp_any q n (N.take n) i x X Y cx cy W HQP.out (by omega) (by omega) HTL.out (by omega) HND.out HHL.out (HCL.out i) hx h)
        have lp := HP2.out.lt
        obtain ⟨l0, hl0⟩ : ∃ l0, l0 = (vN N 0).length := ⟨_, rfl⟩
        have HL0 := Lib.hid hl0
        rw [← hl0] at z1 hvl0 HPO HF1
        clear hpo hl0
        go_wp2_with fail
        go_loopw [31] (fun i wr => ∃ j : Nat, j ≤ l0 ∧ i = .int .i64 j ∧ (∀ i, i < j → ∀ k, n ≤ k → k < N.length → fitAt q n N k i) ∧ Below w2.heap.size w2 wr) (fun i _ => l0 - (intOf i).toNat)
        case atStart => exact ⟨0, Nat.zero_le _, rfl, fun j hj => absurd hj (by omega), Below.refl _ _⟩
        case round =>
          obtain ⟨j, hj, rfl, hfit, hbr⟩ := hrel
          have HFK := Lib.hid hfit
          have hbwr := below_trans hbw2 hbr
          clear hfit
          by_cases hlt : j < l0
          · have HPOj := Lib.hid (fun W hb => HPO.out W j hb hlt)
            have HITj := Lib.hid (HIT.out j)
            have HPR := Lib.hid (HP2.out.below hbr)
            have r1 := HPR.out.c1
            have HF1j := Lib.hid (fun (k : Nat) (h1 : n ≤ k) (h2 : k < N.length) => HF1.out k h1 h2 j hlt)
            have HFD : Hid (∀ k, fitAt q n N k j ↔ wgN q (wsN q (hsN (N.take n)) (hN N k)) (colN (N.take n) j) n = nthN (vN N k) j) := fun k => Iff.rfl
            generalize colN (N.take n) j = CC at *
            generalize hsN (N.take n) = HH at *
            clear q1
            go_wp2_with fail
            refine (HPOj.out _ hbwr).mono ?_
            rintro e w4 ⟨XA, xc, YA, yc, rfl, hT⟩
            have hb4 := hT.below
            have HL := Lib.hid hT.lists
            have hbw4 := below_trans hbwr hb4
            have HP4 := Lib.hid (HPR.out.below hb4)
            have r4 := HP4.out.c1
            have hbr4 := below_trans hbr hb4
            clear hT r1
            go_wp2_with fail
            go_loopw [48] (fun i wi => ∃ k : Nat, k ≤ N.length - n ∧ i = .int .i64 k ∧ (∀ i, i < k → fitAt q n N (n + i) j) ∧ Below w4.heap.size w4 wi) (fun i _ => N.length - n - (intOf i).toNat)
            case atStart => exact ⟨0, Nat.zero_le _, rfl, fun j hj => absurd hj (by omega), Below.refl _ _⟩
            case round =>
              obtain ⟨k, hk, rfl, hfj, hbi⟩ := hrel
              have HFJ := Lib.hid hfj
              have hbwi := below_trans hbw4 hbi
              clear hfj r4
              by_cases hkl : k < N.length - n
              · obtain ⟨b', off', B', c', hA, hb', -, g1, g2, hNt, -⟩ := (HSD.out.below hbwi).nat (show k < (N.drop n).length by rw [List.length_drop]; omega)
                injection hA with e0
                injection e0 with e1 e2
                subst e1; subst e2
                rw [hN_drop] at g1
                rw [vN_drop] at g2 hNt
                have hkln := HGN.out.len (n + k) (by omega)
                have hkr := (HGN.out.rng (n + k) (by omega)).2.1
                obtain ⟨b2, o2, rfl, hb2, hc2⟩ := hNt j (by have := HL0.out; omega)
                have HF1k := Lib.hid (HF1j.out (n + k) (by omega) (by omega))
                have HFDk := Lib.hid (HFD.out (n + k))
                have hxq : hN N (n + k) < q := by omega
                have hjL : j < (vN N (n + k)).length := by have := HL0.out; omega
                have hvl : (vN N (n + k)).length ≤ 2048 := by have := HL0.out; omega
                have i5 : (0 : Int) ≤ (j : Int) := by omega
                have i6 : (j : Int) < ((vN N (n + k)).length : Int) := by omega
                have HITx := Lib.hid (fun W X Y cx cy h => HITj.out (hN N (n + k)) hxq W X Y cx cy h)
                generalize hN N (n + k) = x at *
                generalize nthN (vN N (n + k)) j = v at *
                generalize wgN q (wsN q HH x) CC n = y at *
                have p5 := (HP4.out.below hbi).c0
                have lp5 := (HP4.out.below hbi).lt
                clear hNt hkln
                go_wp2_with fail
                generalize hw5 : wr.alloc (.cells #[.int .i64 (x : Int), .slice (some ⟨b2, o2, none⟩) (vN N (n + k)).length c'] 53) = w5
                have hb5 : Below wr.heap.size wr w5 := by rw [← hw5]; exact below_alloc _ _
                have hsc : ShCell w5 wr.heap.size x (.slice (some ⟨b2, o2, none⟩) (vN N (n + k)).length c') := by rw [← hw5]; exact ShCell.new _ _ rfl
                have s0 := hsc.c0
                have HSC := Lib.hid hsc
                have p6 := (hb5.cell (p := ⟨w.heap.size, 0, none⟩) lp5).trans p5
                have hc5 := (hb5.cell (p := ⟨b2, o2 + j, none⟩) hb2).trans hc2
                have lb5 := Nat.lt_of_lt_of_le hb2 hb5.size
                have HL5 := Lib.hid (show NatsAt w5 XA HH ∧ SlOK XA xc HH ∧ NatsAt w5 YA CC ∧ SlOK YA yc CC from ⟨(HL.out.1.below hbi).below hb5, HL.out.2.1, (HL.out.2.2.1.below hbi).below hb5, HL.out.2.2.2⟩)
                clear hw5 hsc g1 g2 hc2 p5
                refine ret_below (HITx.out _ XA YA xc yc HL5.out) ?_
                intro w6 hb6
                have s6 := (HSC.out.below hb6).c1
                have hc6 := (hb6.cell (p := ⟨b2, o2 + j, none⟩) lb5).trans hc5
                have hbi6 := below_trans hbi (below_trans hb5 hb6)
                clear s0 p6 hc5
                by_cases hyv : y = v
                · have t5 : ((y : Int) != (v : Int)) = false := by simp; omega
                  have t6 : (y != v) = false := by simp [hyv]
                  have HOK := Lib.hid (HFDk.out.2 hyv)
                  clear hyv
                  go_wp2_with fail
                  go_roundw
                  case rel =>
                    refine ⟨k + 1, by omega, by go_num, fun i hi => ?_, hbi6⟩
                    by_cases hik : i = k
                    · subst hik; exact HOK.out
                    · exact HFJ.out i (by omega)
                  case measure => simp [intOf]; omega
                · have t5 : ((y : Int) != (v : Int)) = true := by simp; omega
                  have t6 : (y != v) = true := by simp [hyv]
                  have HOK := Lib.hid (HF1k.out (fun h => hyv (HFDk.out.1 h)))
                  clear hyv
                  go_wp2_with fail
                  go_ret
                  exact RetB.bool HOK.out (below_trans hbw4 hbi6)
              · have HAll := Lib.hid (fun i (hi : i < N.length - n) => HFJ.out i (by omega))
                go_wp2_with fail
                go_roundw
                case rel =>
                  refine ⟨j + 1, by omega, by go_num, fun i hi k hk1 hk2 => ?_, below_trans hbr4 hbi⟩
                  by_cases hik : i = j
                  · subst hik
                    have := HAll.out (k - n) (by omega)
                    rwa [show n + (k - n) = k by omega] at this
                  · exact HFK.out i (by omega) k hk1 hk2
                case measure => simp [intOf]; omega
          · have HE := Lib.hid (HF2.out (fun k' hk1 hk2 i hi => HFK.out i (by have := HL0.out; omega) k' hk1 hk2))
            go_wp2_with fail
            go_ret
            exact RetB.bool HE.out hbwr
end Go.Proofs.YtlhipgejiacklaaDoor
namespace Go.Proofs.YtlhipgejiacklaaDoor
open Go.RowKit

/-! ### Rows of shares of the own -/
abbrev HV := Int × Value
def flatH : List HV → List Value
  | [] => []
  | x :: H => .int .i64 x.1 :: x.2 :: flatH H
def hvAt (H : List HV) (k : Nat) : HV := H.getD k (0, .slice none 0 0)
theorem flatH_len : ∀ H : List HV, (flatH H).length = H.length * 2
  | [] => rfl
  | x :: H => by simp [flatH, flatH_len H]; omega
theorem flatH_append : ∀ H K : List HV, flatH (H ++ K) = flatH H ++ flatH K
  | [], K => rfl
  | x :: H, K => by simp [flatH, flatH_append H K]
theorem flatH_at : ∀ (H : List HV) (k : Nat), k < H.length → (flatH H)[k * 2]? = some (.int .i64 (hvAt H k).1) ∧ (flatH H)[k * 2 + 1]? = some (hvAt H k).2
  | [], k, h => absurd h (by simp)
  | x :: H, 0, _ => by simp [flatH, hvAt]
  | x :: H, k + 1, h => by
    have ih := flatH_at H k (by simpa using h)
    rw [show (k + 1) * 2 = k * 2 + 1 + 1 by omega]
    simp only [flatH, List.getElem?_cons_succ]
    exact ih
theorem flatH_set1 : ∀ (H : List HV) (i : Nat) (v : Value), i < H.length → (flatH H).set (i * 2 + 1) v = flatH (H.set i ((hvAt H i).1, v))
  | [], i, _, h => absurd h (by simp)
  | y :: H, 0, v, _ => by simp [flatH, hvAt]
  | y :: H, i + 1, v, h => by
    rw [show (i + 1) * 2 + 1 = i * 2 + 1 + 1 + 1 by omega]
    simp only [flatH, List.set_cons_succ]
    rw [flatH_set1 H i v (by simpa using h)]
    simp [hvAt]
theorem flatH_set0 : ∀ (H : List HV) (i : Nat) (x : Int), i < H.length → (flatH H).set (i * 2) (.int .i64 x) = flatH (H.set i (x, (hvAt H i).2))
  | [], i, _, h => absurd h (by simp)
  | y :: H, 0, x, _ => by simp [flatH, hvAt]
  | y :: H, i + 1, x, h => by
    rw [show (i + 1) * 2 = i * 2 + 1 + 1 by omega]
    simp only [flatH, List.set_cons_succ]
    rw [flatH_set0 H i x (by simpa using h)]
    simp [hvAt]
theorem hvAt_set_same (H : List HV) (i : Nat) (x : HV) (h : i < H.length) : hvAt (H.set i x) i = x := by simp [hvAt, List.getD_eq_getElem?_getD, h]
theorem hvAt_set_other (H : List HV) (i j : Nat) (x : HV) (h : i ≠ j) : hvAt (H.set i x) j = hvAt H j := by simp [hvAt, List.getD_eq_getElem?_getD, h]
def isSl : Value → Bool
  | .slice _ _ _ => true
  | _ => false
theorem flatH_one (H : List HV) (h : ∀ k, k < H.length → isSl (hvAt H k).2 = true) : ∀ u ∈ flatH H, u.oneCell' = true := by
  induction H with
  | nil => intro u hu; cases hu
  | cons x H ih =>
    intro u hu
    simp only [flatH, List.mem_cons] at hu
    rcases hu with rfl | rfl | hu
    · rfl
    · have := h 0 (by simp)
      simp only [hvAt, List.getD_cons_zero] at this
      revert this
      cases x.2 <;> simp [isSl, Value.oneCell']
    · exact ih (fun k hk => by have := h (k + 1) (by simpa using hk); simpa [hvAt] using this) u hu
def HvOwn (w : World) (base : Nat) (v : Value) (H : List HV) : Prop := w.ownsRow base 53 2 v H.length (flatH H)
theorem HvOwn.below {w w' : World} {base : Nat} {v : Value} {H : List HV} (h : HvOwn w base v H) (hb : Below w.heap.size w w') : HvOwn w' base v H := own_below h hb
theorem HvOwn.nil (w : World) (base : Nat) : HvOwn w base (.slice none 0 0) [] := ⟨rfl, .inl ⟨rfl, rfl⟩⟩
/-- What a row of the own looks like. -/
theorem HvOwn.form {w : World} {base : Nat} {v : Value} {H : List HV} (h : HvOwn w base v H) (hl : 0 < H.length) :
    ∃ g c, v = .slice (some ⟨g, 0, none⟩) H.length c ∧ g < w.heap.size ∧ base ≤ g ∧ H.length ≤ c ∧ c ≤ maxLen ∧ (∀ k, k < H.length → w.cell? ⟨g, k * 2, none⟩ = some (.int .i64 (hvAt H k).1) ∧ w.cell? ⟨g, k * 2 + 1, none⟩ = some (hvAt H k).2) ∧ ∀ j, w.frozen? ⟨g, j, none⟩ = false := by
  rcases h.2 with ⟨_, h0⟩ | ⟨g, cap, cur, rfl, hg, hh, hnc, hcm, hcs, htk⟩
  · omega
  · refine ⟨g, cap, rfl, blk_lt hh, hg, hnc, hcm, fun k hk => ?_, fun j => by simp [World.frozen?, hh]⟩
    obtain ⟨f1, f2⟩ := flatH_at H k hk
    exact ⟨by rw [h.cellAt (j := k * 2) (by omega)]; exact f1, by rw [h.cellAt (j := k * 2 + 1) (by omega)]; exact f2⟩
theorem HvOwn.set_cell {w : World} {base g c i : Nat} {H H' : List HV} (u : Value) (j : Nat) (h : HvOwn w base (.slice (some ⟨g, 0, none⟩) H.length c) H) (hl : H'.length = H.length) (hj : j < H.length * 2) (he : flatH H' = (flatH H).set j u) (_ : i = j) :
    HvOwn (w.setCell ⟨g, j, none⟩ u) base (.slice (some ⟨g, 0, none⟩) H'.length c) H' := by
  rcases h.2 with ⟨h0, _⟩ | ⟨g', cap, cur, hv, hg, hh, hnc, hcm, hcs, htk⟩
  · cases h0
  · injection hv with h1 h2 h3
    injection h1 with h1
    injection h1 with h1
    subst h1; subst h3
    refine ⟨by rw [flatH_len], .inr ⟨g, c, cur.setIfInBounds j u, by rw [hl], hg, ?_, by rw [hl]; exact hnc, hcm, by simpa using hcs, ?_⟩⟩
    · simp [World.setCell, Array.getElem?_modify, hh]
    · rw [hl, he, ← htk]
      simp [List.take_set]
theorem HvOwn.set1 {w : World} {base g c : Nat} {H : List HV} (h : HvOwn w base (.slice (some ⟨g, 0, none⟩) H.length c) H) (i : Nat) (hi : i < H.length) (v : Value) :
    HvOwn (w.setCell ⟨g, i * 2 + 1, none⟩ v) base (.slice (some ⟨g, 0, none⟩) H.length c) (H.set i ((hvAt H i).1, v)) := by
  have := HvOwn.set_cell (i := i * 2 + 1) (H' := H.set i ((hvAt H i).1, v)) v (i * 2 + 1) h (by simp) (by omega) (flatH_set1 H i v hi).symm rfl
  rwa [List.length_set] at this
theorem HvOwn.set0 {w : World} {base g c : Nat} {H : List HV} (h : HvOwn w base (.slice (some ⟨g, 0, none⟩) H.length c) H) (i : Nat) (hi : i < H.length) (x : Int) :
    HvOwn (w.setCell ⟨g, i * 2, none⟩ (.int .i64 x)) base (.slice (some ⟨g, 0, none⟩) H.length c) (H.set i (x, (hvAt H i).2)) := by
  have := HvOwn.set_cell (i := i * 2) (H' := H.set i (x, (hvAt H i).2)) (.int .i64 x) (i * 2) h (by simp) (by omega) (flatH_set0 H i x hi).symm rfl
  rwa [List.length_set] at this
theorem HvOwn.kept {w w' : World} {base : Nat} {v : Value} {H : List HV} {row : Option Nat} (h : HvOwn w base v H) (hg : w.grownBy w' row) (hne : v.ownBlock = none ∨ v.ownBlock ≠ row) : HvOwn w' base v H := World.ownsRow.kept h hg hne
theorem own_other {w : World} {base : Nat} {e : TypeId} {size : Nat} {v : Value} {n : Nat} {xs : List Value} (h : w.ownsRow base e size v n xs) (p : Addr) (u : Value) (hp : ∀ b, v.ownBlock = some b → b ≠ p.block) : (w.setCell p u).ownsRow base e size v n xs := by
  obtain ⟨h1, h2⟩ := h
  refine ⟨h1, ?_⟩
  rcases h2 with h2 | ⟨g, cap, cur, hv, hg, hh, r⟩
  · exact .inl h2
  · exact .inr ⟨g, cap, cur, hv, hg, (Below.heap_setCell w p u g (hp g (by rw [hv]; rfl))).trans hh, r⟩

/-! ### Rows of shares whose values are rows of the own too -/
structure Rows2 (w : World) (base : Nat) (v : Value) (H : List HV) (T : List ShN) : Prop where
  out : HvOwn w base v H
  len : H.length = T.length
  hold : ∀ k, k < T.length → (hvAt H k).1 = (hN T k : Int)
  row : ∀ k, k < T.length → w.ownsRow base 3 1 (hvAt H k).2 (vN T k).length (valsN (vN T k))
  ne : ∀ i j, i < T.length → j < T.length → i ≠ j → ∀ b, (hvAt H i).2.ownBlock = some b → (hvAt H j).2.ownBlock = some b → False
  no : ∀ i, i < T.length → ∀ b, (hvAt H i).2.ownBlock = some b → v.ownBlock = some b → False
theorem Rows2.below {w w' : World} {base : Nat} {v : Value} {H : List HV} {T : List ShN} (h : Rows2 w base v H T) (hb : Below w.heap.size w w') : Rows2 w' base v H T :=
  ⟨h.out.below hb, h.len, h.hold, fun k hk => own_below (h.row k hk) hb, h.ne, h.no⟩
theorem own_sl2 {w : World} {base : Nat} {v : Value} {L : List Nat} (h : w.ownsRow base 3 1 v L.length (valsN L)) : isSl v = true := by
  obtain ⟨A, c, rfl, -⟩ := own_sl h rfl; rfl
/-- What such a row is to readers. -/
theorem Rows2.read {w : World} {base : Nat} {v : Value} {H : List HV} {T : List ShN} (h : Rows2 w base v H T) : ∃ A c, v = .slice A T.length c ∧ ShP (fun b => base ≤ b) w A c (shL T) := by
  rcases Nat.eq_zero_or_pos T.length with h0 | h0
  · have : T = [] := List.eq_nil_of_length_eq_zero h0
    subst this
    have hH : H = [] := List.eq_nil_of_length_eq_zero h.len
    have ho := h.out
    subst hH
    rcases ho.2 with ⟨rfl, -⟩ | ⟨g, cap, cur, rfl, hg, hh, hnc, hcm, hcs, htk⟩
    · exact ⟨none, 0, rfl, ShP.nil _ _⟩
    · exact ⟨_, cap, rfl, fun k hk => absurd hk (by simp [shL]), ⟨Nat.zero_le _, hcm, (fun e => by cases e), .inl rfl⟩⟩
  · obtain ⟨g, c, rfl, hg, hbg, hlc, hcm, hcell, -⟩ := h.out.form (by rw [h.len]; exact h0)
    refine ⟨some ⟨g, 0, none⟩, c, by rw [h.len], fun k hk => ?_, ⟨by rw [shL_len, ← h.len]; exact hlc, hcm, (fun e => by cases e), .inr (fun a e => by injection e with e; subst e; rfl)⟩⟩
    rw [shL_len] at hk
    obtain ⟨c1, c2⟩ := hcell k (by rw [h.len]; exact hk)
    obtain ⟨B, c', hv, hN, hS, hb⟩ := own_sl (h.row k hk) rfl
    refine ⟨g, 0, B, c', rfl, hg, hbg, ?_, ?_, ?_⟩
    · rw [Nat.zero_add, c1, h.hold k hk, hS_shL hk]
    · rw [Nat.zero_add, c2, hv, vS_shL, len_ofN]
    · rw [vS_shL]
      exact ⟨hN.ints, by rw [len_ofN]; exact hS.iok, fun b off e => .inr (hb b off e).1⟩
end Go.Proofs.YtlhipgejiacklaaDoor
namespace Go.Proofs.YtlhipgejiacklaaDoor
open Go.RowKit

/-- append of one share onto a row of the own. -/
theorem app_hv {ops : Array Oper} {rest : List Oper} {o : Oper} {a : Act} {Q : Exit → Act → World → Prop} (hgd : o.guard = none) (s x : Operand)
    (ho : o.op = .call { callee := .builtin .append, args := #[s, x], argTypes := #[31, 31] })
    {base : Nat} {w : World} {v : Value} {H : List HV} {g : Nat} (y : HV) (hs : a.eval s = v) (hown : HvOwn w base v H)
    (hx : a.eval x = .slice (some ⟨g, 0, none⟩) 1 1) (hg : w.heap[g]? = some (.cells #[.int .i64 y.1, y.2] 53 (0, 0))) (hy : isSl y.2 = true) (hl : H.length ≤ 1048576) (hbase : base ≤ w.heap.size)
    (h : ∀ v' w', HvOwn w' base v' (H ++ [y]) → w.grownBy w' v.ownBlock → Below base w w' → (v'.ownBlock = v.ownBlock ∨ v'.ownBlock = some w.heap.size) → wpList Tryd.prog ops Q rest (a.put o.dst v') w') :
    wpList Tryd.prog ops Q (o :: rest) a w := by
  obtain ⟨i0, hi, hz0, hz1, hz2⟩ := info_parts info_share
  refine wpList_append_own_at w hgd s x 31 ho base 53 i0 _ 2 32 Tryd.underlying31 hi hz0 hz1 hz2 rfl (by omega) v H.length (flatH H) hs hown ⟨g, 0, none⟩ 1 1 (flatH [y]) hx (flatH_len [y]) (fun j u hu => ?_) (flatH_one [y] (fun k hk => ?_)) (by unfold maxLen; omega) (by omega) hbase ?_
  · have hj : j < 2 := by
      rcases Nat.lt_or_ge j 2 with h1 | h1
      · exact h1
      · rw [List.getElem?_eq_none (by rw [flatH_len]; simp; omega)] at hu; cases hu
    have : j = 0 ∨ j = 1 := by omega
    rcases this with rfl | rfl
    · rw [show (⟨g, 0, none⟩ : Addr).add 0 = ⟨g, 0, none⟩ from rfl, cell_of_row w g 0 _ _ (0, 0) hg, ← hu]; rfl
    · rw [show (⟨g, 0, none⟩ : Addr).add 1 = ⟨g, 1, none⟩ from rfl, cell_of_row w g 1 _ _ (0, 0) hg, ← hu]; rfl
  · have : k = 0 := by simp at hk; omega
    subst this; exact hy
  · intro v' w' h2 h3 _ h5
    refine h v' w' ?_ h3 ((Below.refl _ _).grown h3 hbase (fun k hk => (World.ownsRow.lt hown k hk).1)) h5
    unfold HvOwn; rw [List.length_append, flatH_append]; exact h2

def DlrAt (w : World) (d base : Nat) (p n h : Int) (T : List ShN) : Prop :=
  d < base ∧ base ≤ w.heap.size ∧ ∃ v H, w.heap[d]? = some (.cells #[.int .i64 p, .int .i64 n, .int .i64 h, v] 94 (0, 0)) ∧ Rows2 w base v H T
def emptyT (k : Nat) : List ShN := (List.range k).map fun m => (m + 1, [])
theorem emptyT_len (k : Nat) : (emptyT k).length = k := by simp [emptyT]
theorem emptyT_succ (k : Nat) : emptyT (k + 1) = emptyT k ++ [(k + 1, [])] := by simp [emptyT, List.range_succ]
theorem hvAt_append {H K : List HV} {k : Nat} (h : k < H.length) : hvAt (H ++ K) k = hvAt H k := by simp [hvAt, List.getD_eq_getElem?_getD, List.getElem?_append_left h]
theorem hvAt_last {H : List HV} {y : HV} : hvAt (H ++ [y]) H.length = y := by simp [hvAt, List.getD_eq_getElem?_getD]
theorem hN_append {T K : List ShN} {k : Nat} (h : k < T.length) : hN (T ++ K) k = hN T k ∧ vN (T ++ K) k = vN T k := by simp [hN, vN, List.getD_eq_getElem?_getD, List.getElem?_append_left h]
theorem hN_last {T : List ShN} {y : ShN} : hN (T ++ [y]) T.length = y.1 ∧ vN (T ++ [y]) T.length = y.2 := by simp [hN, vN, List.getD_eq_getElem?_getD]
/-- One share without values more. -/
theorem Rows2.more {w w' : World} {base : Nat} {v v' : Value} {H : List HV} {T : List ShN} (h : Rows2 w base v H T) (x : Nat) (xi : Int) (hx : xi = (x : Int)) (hown : HvOwn w' base v' (H ++ [(xi, .slice none 0 0)])) (hg : w.grownBy w' v.ownBlock)
    (hv : v'.ownBlock = v.ownBlock ∨ v'.ownBlock = some w.heap.size) : Rows2 w' base v' (H ++ [(xi, .slice none 0 0)]) (T ++ [(x, [])]) := by
  subst hx
  have hl := h.len
  have hcase : ∀ k, k < (T ++ [(x, [])]).length → k < T.length ∨ k = T.length := fun k hk => by simp at hk; omega
  refine ⟨hown, by simp [hl], fun k hk => ?_, fun k hk => ?_, fun i j hi hj hij b e1 e2 => ?_, fun i hi b e1 e2 => ?_⟩
  · rcases hcase k hk with hk | rfl
    · rw [hvAt_append (by omega), (hN_append hk).1]; exact h.hold k hk
    · rw [← hl, hvAt_last, hl, hN_last.1]
  · rcases hcase k hk with hk | rfl
    · rw [hvAt_append (by omega), (hN_append hk).2]
      refine (h.row k hk).kept hg ?_
      rcases he : (hvAt H k).2.ownBlock with _ | b
      · exact .inl rfl
      · exact .inr (fun e => h.no k hk b he e.symm)
    · rw [← hl, hvAt_last, hl, hN_last.2]; exact World.ownsRow_nil _ _ _ _
  · rcases hcase i hi with hi | rfl
    · rcases hcase j hj with hj | rfl
      · rw [hvAt_append (by omega)] at e1 e2; exact h.ne i j hi hj hij b e1 e2
      · rw [← hl, hvAt_last] at e2; cases e2
    · rw [← hl, hvAt_last] at e1; cases e1
  · rcases hcase i hi with hi | rfl
    · rw [hvAt_append (by omega)] at e1
      rcases hv with e | e
      · exact h.no i hi b e1 (e ▸ e2)
      · have := (World.ownsRow.lt (h.row i hi) b e1).2
        rw [e] at e2; injection e2 with e2; omega
    · rw [← hl, hvAt_last] at e1; cases e1
theorem HvOwn.sl {w : World} {base : Nat} {v : Value} {H : List HV} (h : HvOwn w base v H) : ∃ A c, v = .slice A H.length c := by
  rcases h.2 with ⟨rfl, h0⟩ | ⟨g, cap, cur, rfl, -⟩
  · exact ⟨none, 0, by rw [h0]⟩
  · exact ⟨_, cap, rfl⟩
theorem HvOwn.slx {w : World} {base : Nat} {v : Value} {H : List HV} {y : HV} (h : HvOwn w base v (H ++ [y])) : ∃ A c, v = .slice A (H.length + 1) c := by
  obtain ⟨A, c, e⟩ := h.sl
  exact ⟨A, c, by rw [e]; simp⟩
theorem Rows2.other {w : World} {base : Nat} {v : Value} {H : List HV} {T : List ShN} (h : Rows2 w base v H T) (q : Addr) (u : Value) (hq : q.block < base) : Rows2 (w.setCell q u) base v H T :=
  ⟨own_other h.out q u (fun b e => by have := (World.ownsRow.lt h.out b e).1; omega), h.len, h.hold, fun k hk => own_other (h.row k hk) q u (fun b e => by have := (World.ownsRow.lt (h.row k hk) b e).1; omega), h.ne, h.no⟩
theorem dlr_box {w : World} {d : Nat} {p n h : Int} {v : Value} (hd : w.heap[d]? = some (.cells #[.int .i64 p, .int .i64 n, .int .i64 h, v] 94 (0, 0))) :
    w.cell? ⟨d, 0, none⟩ = some (.int .i64 p) ∧ w.cell? ⟨d, 3, none⟩ = some v ∧ ∀ j, w.frozen? ⟨d, j, none⟩ = false := by
  refine ⟨?_, ?_, fun j => by simp [World.frozen?, hd]⟩
  · rw [cell_of_row w d 0 _ _ (0, 0) hd]; rfl
  · rw [cell_of_row w d 3 _ _ (0, 0) hd]; rfl
theorem dlr_set {w : World} {d : Nat} {p n h : Int} {v : Value} (hd : w.heap[d]? = some (.cells #[.int .i64 p, .int .i64 n, .int .i64 h, v] 94 (0, 0))) (u : Value) :
    (w.setCell ⟨d, 3, none⟩ u).heap[d]? = some (.cells #[.int .i64 p, .int .i64 n, .int .i64 h, u] 94 (0, 0)) := by
  simp [World.setCell, Array.getElem?_modify, hd]

set_option maxRecDepth 100000 in
set_option maxHeartbeats 4000000 in
theorem newDealer_any (p n h : Nat) (w : World) (hh : h ≤ 1000) :
    Calls Tryd.prog 84 #[planV p n h] w (fun e w' => ∃ d base, e = .returned (.pointer (some ⟨d, 0, none⟩)) ∧ w.heap.size ≤ d ∧ DlrAt w' d base p n h (emptyT h) ∧ Below w.heap.size w w') := by
  go_enter Tryd.func84, Tryd.ntmps84
  go_wp2_with fail
  refine gen_world fun w1 hw1 => ?_
  have hpl : PlanCell w1 w.heap.size p n h := by rw [hw1]; exact (PlanCell.new _ _ _ rfl).alloc _
  have hd1 : w1.heap[w.heap.size + 1]? = some (.cells #[.int .i64 (p : Int), .int .i64 (n : Int), .int .i64 (h : Int), .slice none 0 0] 94 (0, 0)) := by
    rw [hw1]
    have := heap_alloc_new (w.alloc (.cells #[.int .i64 (p : Int), .int .i64 (n : Int), .int .i64 (h : Int)] 28)) (.cells #[.int .i64 (p : Int), .int .i64 (n : Int), .int .i64 (h : Int), .slice none 0 0] 94)
    rw [size_alloc] at this; exact this
  have hb1 : Below w.heap.size w w1 := by rw [hw1]; exact below_trans (below_alloc _ _) (below_alloc _ _)
  have hs1 : w1.heap.size = w.heap.size + 2 := by rw [hw1]; simp
  have p2 := hpl.c2
  have HD1 := Lib.hid hd1
  have HS1 := Lib.hid hs1
  have hs1' : w.heap.size + 2 ≤ w1.heap.size := by omega
  clear hw1 hd1 hs1
  go_wp2_with fail
  go_loopw [10] (fun i wr => ∃ k : Nat, k ≤ h ∧ i = .int .i64 k ∧ DlrAt wr (w.heap.size + 1) (w.heap.size + 2) p n h (emptyT k) ∧ Below w.heap.size w wr) (fun i _ => h - (intOf i).toNat)
  case atStart =>
    refine ⟨0, Nat.zero_le _, rfl, ⟨by omega, hs1', .slice none 0 0, [], HD1.out, ⟨HvOwn.nil _ _, rfl, fun k hk => absurd hk (by simp [emptyT]), fun k hk => absurd hk (by simp [emptyT]), fun i j hi => absurd hi (by simp [emptyT]), fun i hi => absurd hi (by simp [emptyT])⟩⟩, hb1⟩
  case round =>
    obtain ⟨k, hk, rfl, ⟨hd, hbs, v, H, hbox, hR⟩, hb⟩ := hrel
    obtain ⟨A, c, rfl, -⟩ := hR.read
    by_cases hlt : k < h
    · obtain ⟨-, b3, bf⟩ := dlr_box hbox
      have f3 := bf 3
      have HR := Lib.hid hR
      have HBX := Lib.hid hbox
      have hlH : H.length ≤ 1000 := by rw [hR.len, emptyT_len]; omega
      have hld := blk_lt hbox
      clear bf hbox hR p2
      have HB4 := Lib.hid (fun (w4 : World) (o : Obj) (hb4 : Below (w.heap.size + 2) (wr.alloc o) w4) => (hb4.block (w.heap.size + 1) (by omega)).trans ((heap_alloc_old wr o hld).trans HBX.out))
      go_wp2_with (at_builtin; refine app_hv rfl (.tmp 17) (.tmp 21) rfl (base := w.heap.size + 2) (H := H) (v := .slice A (emptyT k).length c) ((k : Int) + 1, .slice none 0 0) rfl (HR.out.out.below (below_alloc _ _)) rfl (heap_alloc_new _ _) rfl (by omega) (by simp; omega) ?_; intro v4 w4 hown4 hg4 hb4 hv4; obtain ⟨A4, c4, rfl⟩ := hown4.slx; have HV4 := Lib.hid hv4; clear hv4; have hx4 := HB4.out w4 _ hb4; have g3 := (dlr_box hx4).2.1; have f4 := (dlr_box hx4).2.2 3; have HX4 := Lib.hid hx4; clear hx4)
      have hR4 := ((HR.out.below (below_alloc _ _)).more (k + 1) _ (by omega) hown4 hg4 HV4.out).other ⟨w.heap.size + 1, 3, none⟩ (.slice A4 (H.length + 1) c4) (by simp)
      have hz4 := hb4.size
      have HN4 := Lib.hid (And.intro hR4 (And.intro (dlr_set HX4.out (.slice A4 (H.length + 1) c4)) (((hb.trans ((below_alloc wr _).mono (by omega))).trans (hb4.mono (by omega))).setCell (p := ⟨w.heap.size + 1, 3, none⟩) (by simp) (.slice A4 (H.length + 1) c4))))
      clear hR4 hown4 hg4
      go_roundw
      case rel => exact ⟨k + 1, by omega, by go_num, ⟨by omega, by simp [World.setCell] at hz4 ⊢; omega, _, _, HN4.out.2.1, by rw [emptyT_succ]; exact HN4.out.1⟩, HN4.out.2.2⟩
      case measure => simp [intOf]; omega
    · obtain rfl : k = h := by omega
      have HX := Lib.hid (show DlrAt wr (w.heap.size + 1) (w.heap.size + 2) p n k (emptyT k) from ⟨hd, hbs, _, H, hbox, hR⟩)
      clear hbox hR p2
      go_wp2_with fail
      go_ret
      exact ⟨_, _, rfl, by omega, HX.out, hb⟩
end Go.Proofs.YtlhipgejiacklaaDoor
