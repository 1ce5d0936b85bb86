/-
  Desks: somebody leaves, in the document.
  Desks: equal ones.
  Conditions: those that each theorem names.
-/
import Derived.Test.YtjckpammcgeloaaM9
set_option linter.unusedVariables false
set_option linter.unusedSimpArgs false
namespace Go.Proofs.Ytjckpammcgeloaa
open Go.RowKit

theorem enter_rgive (args : Array Value) (w : World) : (callFunc 42 args).run Try.prog w = .ok (.enter 42 args) w :=
 Go.MuLone.run_callFunc_enter Try.func42 (by kernel_rfl) rfl args w
theorem build_desk (A : Option Addr) (n c : Nat) (w : World) : (Instr.build 30 #[(0, .slice A n c)]).run Try.prog w = .ok (.agg #[.slice A n c, .slice none 0 0]) w := by go_simp
theorem bs_case (w : World) (x : CaseD) : (Instr.buildSlice 28 1 #[(0, caseV x)]).run Try.prog w = .ok (.slice (some ⟨w.heap.size, 0, none⟩) 1 1) (w.alloc (.cells (EK.f x).toArray 37)) := by show _ = Result.ok _ (w.alloc (.cells #[.int .i64 x.c, .string x.r, .string x.o, .int .i64 x.t, .bool x.s] 37)); go_simp
theorem st_ks {w : World} {x : Nat} {u v : Value} (h : DeskCell w x u v) (B : Option Addr) (m d : Nat) : (Instr.storeAt 28 (.pointer (some ⟨x, 1, none⟩)) (.slice B m d)).run Try.prog w = .ok () (w.setCell ⟨x, 1, none⟩ (.slice B m d)) := by
 have h1 := h.c1
 have f1 := h.fz 1
 go_simp
theorem wr1 {m : Nat} (h : (m : Int) ≤ 100000) : IntKind.wrap .i64 ((m : Int) + 1) = (m : Int) + 1 := by unfold IntKind.wrap; simp [IntKind.bits, IntKind.signed]; omega
theorem sl_lo {N c : Nat} (g i : Nat) (h1 : (i : Int) ≤ (c : Int)) (h2 : ¬ c = 0) (W : World) : (Instr.sliceAt 27 (.slice (some ⟨g, 0, none⟩) N c) none (some (.int .i64 (i : Int))) none).run Try.prog W = .ok (.slice (some ⟨g, 0, none⟩) i c) W := by
 have e2 : (0 : Int) ≤ (i : Int) := by omega
 go_simp
theorem sl_hi {N c : Nat} (g i q : Nat) (hN : N = i + q + 1) (hc0 : N ≤ c) : ∃ ad cd, (q = 0 ∨ ad = ⟨g, (i + 1) * 3, none⟩) ∧ ∀ W, (Instr.sliceAt 27 (.slice (some ⟨g, 0, none⟩) N c) (some (.int .i64 ((i : Int) + 1))) none none).run Try.prog W = .ok (.slice (some ad) q cd) W := by
 have HN := Lib.hid hN
 have n3 : (i : Int) + 1 ≤ (N : Int) := by omega
 have n4 : (i : Int) + 1 ≤ (c : Int) := by omega
 have n5 : (0 : Int) ≤ (i : Int) + 1 := by omega
 have n6 : ((i : Int) + 1).toNat = i + 1 := by omega
 clear hN
 by_cases hc : c = i + 1
 ·
  refine ⟨⟨g, 0, none⟩, 0, .inl (by have := HN.out; omega), fun W => ?_⟩
  obtain rfl : q = 0 := by have := HN.out; omega
  obtain rfl : N = c := by have := HN.out; omega
  have HC := Lib.hid hc
  have q1 : N - (i + 1) = 0 := by omega
  clear hc
  go_simp
  exact HC.out
 ·
  refine ⟨⟨g, (i + 1) * 3, none⟩, c - (i + 1), .inr rfl, fun W => ?_⟩
  have q1 : N - (i + 1) = q := by have := HN.out; omega
  go_simp
theorem GvS.retL {w wk : World} {bx : Nat} {u x : Value} {D : DeskD} {id : Int} (h : GvS w wk bx u x D) (hx : bx = w.heap.size) {u' x' : Value} {O : DeskD} {B : Nat} (ho : DeskO wk B u' x' O) (hB : bx + 1 + 1 ≤ B) {er : Int} (he : leaveE D id = er) (hd : leaveD D id = O) :
  LeaveP D id w (.returned (.tuple #[.agg #[u', x'], .int .i64 er])) ((wk.setCell ⟨bx + 1, 0, none⟩ u').setCell ⟨bx + 1, 1, none⟩ x') := by
 subst hx; subst he; subst hd
 refine ⟨u', x', rfl, ((ho.set ⟨w.heap.size + 1, 0, none⟩ _ (by show w.heap.size + 1 < B; omega)).set ⟨w.heap.size + 1, 1, none⟩ _ (by show w.heap.size + 1 < B; omega)).lower (by omega), below_set (below_set h.b ⟨w.heap.size + 1, 0, none⟩ _ (by show w.heap.size ≤ w.heap.size + 1; omega)) ⟨w.heap.size + 1, 1, none⟩ _ (by show w.heap.size ≤ w.heap.size + 1; omega)⟩
theorem mx_lt {a b : Int} (h : a < b) : b = mxI a b := by unfold mxI; rw [if_pos h]
theorem mx_ge {a b : Int} (h : ¬ a < b) : a = mxI a b := by unfold mxI; rw [if_neg h]
/-- The document's appends to the new desk. -/
theorem apk_run {w : World} {base : Nat} {v : Value} {S : List CaseD} (x : CaseD) (hown : ElOwn EK 37 w base v S) (hl : S.length + 1 ≤ 1000000) (hbase : base ≤ w.heap.size) :
  ∃ g cap w', (Builtin.append_ #[28, 28] 28 #[v, .slice (some ⟨w.heap.size, 0, none⟩) 1 1]).run Try.prog (w.alloc (.cells (EK.f x).toArray 37)) = .ok (.slice (some ⟨g, 0, none⟩) (S.length + 1) cap) w' ∧ ElOwn EK 37 w' base (.slice (some ⟨g, 0, none⟩) (S.length + 1) cap) (S ++ [x]) ∧ w.grownBy w' v.ownBlock ∧ (v.ownBlock = some g ∨ w.heap.size ≤ g) := by
 obtain ⟨v', w', h1, h2, h3, h4⟩ := app_run EK Try.underlying28 info_case rfl (hown.alloc (.cells (EK.f x).toArray 37)) ⟨w.heap.size, 0, none⟩ 1 1 (T := [x]) rfl (ElAt.lit EK w x 37).news (by simpa using hl) (by omega) (by simp; omega) 28
 have hpos : 0 < (S ++ [x]).length := by simp
 obtain ⟨g, cap, rfl, h5, h6⟩ := World.ownsRow.form h2 hpos
 rw [List.length_append, List.length_singleton] at h1
 refine ⟨g, cap, w', h1, by have := h2; rw [List.length_append, List.length_singleton] at this; exact this, ⟨h3.os, h3.tape, h3.output, Nat.le_trans (by simp) h3.size, fun k hk hne => (h3.block k (by simp; omega) hne).trans (Below.heap_alloc w _ k hk)⟩, ?_⟩
 rcases h4 with h4 | h4
 ·
  exact .inl (by rw [← h4]; rfl)
 ·
  right
  have : g = w.heap.size + 1 := by simpa [Value.ownBlock] using h4
  omega
set_option maxRecDepth 100000 in
set_option maxHeartbeats 8000000 in
theorem refLeave_any {P : Nat → Prop} (v : Value) (id : Int) (D : DeskD) (w : World) (hD : DeskR P w v D) (sD : DeskS D) :
  Calls Try.prog 44 #[v, .int .i64 id] w (LeaveP D id w) := by
 have HD := Lib.hid hD
 have HS := Lib.hid sD
 obtain ⟨A0, ca0, B0, cb0, rfl, h1, h2⟩ := hD
 clear h1 h2 sD
 go_enter Try.func44, Try.ntmps44
 go_wp2_with fail
 refine gen_calls fun w1 hw1 => ?_
 have HB1 := Lib.hid (show Below w.heap.size w w1 from by rw [hw1]; exact bl_alloc _ (below_alloc _ _))
 have D1 := Lib.hid (show DeskCell w1 w.heap.size (.slice A0 D.cs.length ca0) (.slice B0 D.ks.length cb0) from by rw [hw1]; exact (DeskCell.new _ _ rfl).below (below_alloc _ _))
 have Z1 := Lib.hid (show DeskCell w1 (w.heap.size + 1) (.slice none 0 0) (.slice none 0 0) from by rw [hw1]; exact DeskCell.new _ _ (by simp))
 clear hw1
 generalize hbx : w.heap.size = bx at *
 have HBX := Lib.hid hbx
 refine (refCopy_any _ D w1 (HD.out.below (show Below w.heap.size w w1 from by rw [hbx]; exact HB1.out)) HS.out).mono ?_
 rintro e w2 ⟨u, x, rfl, hO, hb2⟩
 clear hbx
 obtain ⟨A, ca, B, cb, rfl, rfl⟩ := hO.forms
 have HO := Lib.hid hO
 have d2 := D1.out.below hb2
 have HD2 := Lib.hid d2
 have HZ2 := Lib.hid (Z1.out.below hb2)
 have HB2 := Lib.hid (HB1.out.trans (hb2.mono (by have := D1.out.lt; omega)))
 have c0 := d2.c0
 have c1 := d2.c1
 have f0 := d2.fz 0
 have f1 := d2.fz 1
 have l0 := d2.lt
 have z1 := Z1.out.lt
 clear hO d2 hb2
 go_wp2_with fail
 refine gen_calls fun w3 hw3 => ?_
 have HG := Lib.hid (show GvS w w3 bx (.slice A D.cs.length ca) (.slice B D.ks.length cb) D from by
  rw [hw3]
  exact ⟨below_set (below_set HB2.out ⟨bx, 0, none⟩ _ (Nat.le_refl _)) ⟨bx, 1, none⟩ _ (Nat.le_refl _), (HD2.out.set0 _).set1 _, (HZ2.out.other ⟨bx, 0, none⟩ _ (by show bx + 1 ≠ bx; omega)).other ⟨bx, 1, none⟩ _ (by show bx + 1 ≠ bx; omega), ((HO.out.set ⟨bx, 0, none⟩ _ (by show bx < _; omega)).set ⟨bx, 1, none⟩ _ (by show bx < _; omega)).lower (by omega)⟩)
 clear hw3 c0 c1 f0 f1 l0 z1
 refine ret_below (refCheck_any _ D w3 HG.out.o.read HS.out) fun w4 hb4 => ?_
 replace HG := Lib.hid (HG.out.below hb4)
 clear hb4
 have c0 := HG.out.d.c0
 have c1 := HG.out.d.c1
 have z0 := HG.out.z.c0
 have z1 := HG.out.z.c1
 have g0 := HG.out.z.fz 0
 have g1 := HG.out.z.fz 1
 have l0 := HG.out.d.lt
 have l1 := HG.out.z.lt
 by_cases hc : chkB D = true
 ·
  have hv : chkE D = 0 := by unfold chkE; rw [if_pos hc]
  have HY := Lib.hid (chk_y.1 hc)
  rw [hv]
  have HV := Lib.hid hv
  clear hc hv
  go_wp2_with fail
  obtain ⟨A', ca', B', cb', e, hcp, hkp⟩ := HG.out.o.read
  injection e with e; injection e with e; injection e with e1 e; injection e with e2 e
  injection e1 with e3 e4 e5
  injection e2 with e6 e7 e8
  subst e3 e5 e6 e8
  have HKP := Lib.hid hkp
  refine ret_pure (refFind_any A D.cs ca id w4 hcp (by have := HS.out.lc; omega)) ?_
  clear e e4 e7 hcp hkp
  rcases fnd_cases D.cs id with ⟨hf, -⟩ | ⟨m, hf, hml, -⟩
  ·
   have HE := Lib.hid (show leaveE D id = 41 ∧ leaveD D id = D from by
    have h1 : leaveE D id = 41 := by unfold leaveE; rw [if_neg (by rw [HV.out]; decide), if_pos (by omega)]
    exact ⟨h1, by unfold leaveD; rw [h1]; rfl⟩)
   rw [hf]
   clear hf
   go_wp2_with fail
   refine bodyPost_ret (results_desk2 rfl _ _ (bx + 1) rfl ((HG.out.z.set0 _).set1 _)) rfl ?_
   exact HG.out.retL HBX.out.symm HG.out.o (Nat.le_refl _) HE.out.1 HE.out.2
  ·
   have HF := Lib.hid hf
   have HML := Lib.hid hml
   rw [hf]
   have m0 : ¬ (m : Int) < 0 := by omega
   obtain ⟨X, hX1, hX2⟩ := HG.out.o.cs
   have hXl : X.length = D.cs.length := hX2.len
   obtain ⟨g, rfl⟩ : ∃ g, A = some ⟨g, 0, none⟩ := by
    rcases hX1.2 with ⟨h0, h1⟩ | ⟨g, cap, cur, hv, -⟩
    ·
     omega
    ·
     injection hv with e1
     exact ⟨g, e1⟩
   obtain ⟨q, hq⟩ : ∃ q, D.cs.length = m + q + 1 := ⟨D.cs.length - m - 1, by omega⟩
   obtain ⟨-, hcap, -⟩ := hX1.cap
   obtain ⟨ad, cd, had, hsl⟩ := sl_hi (N := D.cs.length) (c := ca) g m q hq (by omega)
   have HS2 := Lib.hid hsl
   have HS1 := Lib.hid (fun W => sl_lo (N := D.cs.length) (c := ca) g m (by omega) (by omega) W)
   obtain ⟨Ax, cx, ex, hXat, -⟩ := ElOwn.at_ hX1
   injection ex with ex1 ex2 ex3
   subst ex1
   have HXA := Lib.hid hXat
   have HXL := Lib.hid hXl
   have hnil : ∀ W : World, ElOwn EC 45 W w4.heap.size (.slice none 0 0) [] := fun W => ElOwn.nil _ _ _ _
   have HAP1 := Lib.hid (show ∀ W, Below w4.heap.size w4 W → ∃ v' w', (Builtin.append_ #[27, 27] 27 #[.slice none 0 0, .slice (some ⟨g, 0, none⟩) m ca]).run Try.prog W = .ok v' w' ∧ ElOwn EC 45 w' w4.heap.size v' (X.take m) ∧ W.grownBy w' none ∧ (v'.ownBlock = none ∨ v'.ownBlock = some W.heap.size) from by
    intro W hb
    have := app_run EC Try.underlying27 info_cou rfl (hnil W) ⟨g, 0, none⟩ m ca (T := X.take m) (by simp; omega) (part_news (HXA.out.below hb) 0 (fun k y hk => by rw [Nat.zero_add]; rw [List.getElem?_take] at hk; split at hk; exact hk; cases hk)) (by have := HS.out.lc; simp; omega) (by omega) hb.size 27
    obtain ⟨v', w', h1, h2, h3, h4⟩ := this
    exact ⟨v', w', h1, h2, h3, h4⟩)
   have HAP2 := Lib.hid (show ∀ W v, Below w4.heap.size w4 W → ElOwn EC 45 W w4.heap.size v (X.take m) → ∃ v' w', (Builtin.append_ #[27, 27] 27 #[v, .slice (some ad) q cd]).run Try.prog W = .ok v' w' ∧ ElOwn EC 45 w' w4.heap.size v' (X.eraseIdx m) ∧ W.grownBy w' v.ownBlock ∧ (v'.ownBlock = v.ownBlock ∨ v'.ownBlock = some W.heap.size) from by
    intro W v hb ho
    have hnews : ∀ j u, (EC.flat (X.drop (m + 1)))[j]? = some u → W.cell? (ad.add j) = some u := by
     rcases had with h0 | h0
     ·
      intro j u hu
      have : X.drop (m + 1) = [] := List.drop_of_length_le (by omega)
      rw [this] at hu; simp [El.flat] at hu
     ·
      subst h0
      exact part_news (HXA.out.below hb) (m + 1) (fun k y hk => by rw [List.getElem?_drop] at hk; exact hk)
    have := app_run EC Try.underlying27 info_cou rfl ho ad q cd (T := X.drop (m + 1)) (by simp; omega) hnews (by have := HS.out.lc; simp; omega) (by omega) hb.size 27
    obtain ⟨v', w', h1, h2, h3, h4⟩ := this
    exact ⟨v', w', h1, by rw [List.eraseIdx_eq_take_drop_succ]; exact h2, h3, h4⟩)
   have m1 : (0 : Int) ≤ (m : Int) := by omega
   have m2 : (m : Int) ≤ 100000 := by have := HML.out; have := HS.out.lc; omega
   clear hf hml hX1 hq hcap hsl had hXat hXl ex2 ex3 hnil
   have HX2 := Lib.hid hX2
   clear hX2
   go_upto_region 7 with fail
   clear c0 c1 z0 z1 g0 g1 l0 l1
   refine wp_region_J2 (GI (R := fun _ _ => True) [Pr.eq (.pointer (some ⟨bx, 0, none⟩)), Pr.eq (.slice (some ⟨g, 0, none⟩) D.cs.length ca), Pr.eq (.int .i64 (m : Int)), Pr.eq (.slice (some ⟨g, 0, none⟩) m ca), Pr.any, Pr.eq (.pointer (some ⟨bx, 0, none⟩)), Pr.eq (.slice (some ⟨g, 0, none⟩) D.cs.length ca), Pr.eq (.int .i64 (m : Int)), Pr.eq (.int .i64 ((m : Int) + 1)), Pr.eq (.slice (some ad) q cd), Pr.any, Pr.any, Pr.any, Pr.any] (NxJ w4 X m 4 10 11 12 13)) (by kernel_rfl) (by kernel_rfl) (by kernel_rfl) ?_ ?_ ?_
   case refine_1 => exact fun V => GI.start (NxJ.start V)
   case refine_2 =>
    refine .cons (fun V Ld a W hLi hpre hR hI KK hK => ?_) ?_
    ·
     have o2 := (hR.old 2 (by kernel_rfl)).trans (show _ = Value.pointer (some ⟨bx, 0, none⟩) from rfl)
     exact J_fieldAddr rfl _ (.tmp 2) 0 rfl (by rw [o2]; go_simp) (hK _ _ (hI.put0 0 rfl rfl (hI.st.mv _ (by decide))))
    refine .cons (fun V Ld a W hLi hpre hR hI KK hK => ?_) ?_
    ·
     have f0 := hI.ef hR hpre 0 rfl rfl rfl (by kernel_rfl)
     have c0 := (HG.out.d.below hI.st.b).c0
     exact J_load rfl _ (.tmp 29) rfl (by rw [f0]; go_simp) (hK _ _ (hI.put0 1 rfl rfl (hI.st.mv _ (by decide))))
    refine .cons (fun V Ld a W hLi hpre hR hI KK hK => ?_) ?_
    ·
     have o6 := (hR.old 6 (by kernel_rfl)).trans (show _ = Value.int .i64 (m : Int) from rfl)
     exact G_move rfl (.tmp 6) rfl o6 (hK _ _ (hI.put0 2 rfl rfl (hI.st.mv _ (by decide))))
    refine .cons (fun V Ld a W hLi hpre hR hI KK hK => ?_) ?_
    ·
     have f1 := hI.ef hR hpre 1 rfl rfl rfl (by kernel_rfl)
     have f2 := hI.ef hR hpre 2 rfl rfl rfl (by kernel_rfl)
     exact G_slice rfl _ (.tmp 30) none (some (.tmp 31)) none rfl (by show (Instr.sliceAt _ (a.eval (.tmp 30)) none (some (a.eval (.tmp 31))) none).run _ _ = _; rw [f1, f2]; exact HS1.out _) (hK _ _ (hI.put0 3 rfl rfl (hI.st.mv _ (by decide))))
    refine .cons (fun V Ld a W hLi hpre hR hI KK hK => ?_) ?_
    ·
     have f3 := hI.ef hR hpre 3 rfl rfl rfl (by kernel_rfl)
     obtain ⟨v', w', hr, ho, hg, hv⟩ := HAP1.out W hI.st.b
     exact G_bapp rfl (.const (.slice none 0 0)) (.tmp 32) _ rfl (by rw [f3]; exact hr) (hK _ _ (hI.put trivial 4 rfl trivial (hI.st.s1 (by decide) hLi ho hg hv)))
    refine .cons (fun V Ld a W hLi hpre hR hI KK hK => ?_) ?_
    ·
     have o2 := (hR.old 2 (by kernel_rfl)).trans (show _ = Value.pointer (some ⟨bx, 0, none⟩) from rfl)
     exact J_fieldAddr rfl _ (.tmp 2) 0 rfl (by rw [o2]; go_simp) (hK _ _ (hI.put0 5 rfl rfl (hI.st.mv _ (by decide))))
    refine .cons (fun V Ld a W hLi hpre hR hI KK hK => ?_) ?_
    ·
     have f5 := hI.ef hR hpre 5 rfl rfl rfl (by kernel_rfl)
     have c0 := (HG.out.d.below hI.st.b).c0
     exact J_load rfl _ (.tmp 34) rfl (by rw [f5]; go_simp) (hK _ _ (hI.put0 6 rfl rfl (hI.st.mv _ (by decide))))
    refine .cons (fun V Ld a W hLi hpre hR hI KK hK => ?_) ?_
    ·
     have o6 := (hR.old 6 (by kernel_rfl)).trans (show _ = Value.int .i64 (m : Int) from rfl)
     exact G_move rfl (.tmp 6) rfl o6 (hK _ _ (hI.put0 7 rfl rfl (hI.st.mv _ (by decide))))
    refine .cons (fun V Ld a W hLi hpre hR hI KK hK => ?_) ?_
    ·
     have f7 := hI.ef hR hpre 7 rfl rfl rfl (by kernel_rfl)
     exact J_binOp rfl .add _ (.tmp 36) (.const (.int .i64 1)) _ rfl (by rw [f7]; go_simp; exact wr1 m2) (hK _ _ (hI.put0 8 rfl rfl (hI.st.mv _ (by decide))))
    refine .cons (fun V Ld a W hLi hpre hR hI KK hK => ?_) ?_
    ·
     have f6 := hI.ef hR hpre 6 rfl rfl rfl (by kernel_rfl)
     have f8 := hI.ef hR hpre 8 rfl rfl rfl (by kernel_rfl)
     exact G_slice rfl _ (.tmp 35) (some (.tmp 37)) none none rfl (by show (Instr.sliceAt _ (a.eval (.tmp 35)) (some (a.eval (.tmp 37))) none none).run _ _ = _; rw [f6, f8]; exact HS2.out _) (hK _ _ (hI.put0 9 rfl rfl (hI.st.mv _ (by decide))))
    refine .cons (fun V Ld a W hLi hpre hR hI KK hK => ?_) ?_
    ·
     have p4 := pm hpre 4 (by kernel_rfl)
     have f9 := hI.ef hR hpre 9 rfl rfl rfl (by kernel_rfl)
     obtain ⟨v', w', hr, ho, hg, hv⟩ := HAP2.out W _ hI.st.b (hI.st.o1 p4 hLi)
     exact G_bapp rfl (.tmp 33) (.tmp 38) _ rfl (by rw [hR.ev 4 rfl rfl p4, f9]; exact hr) (hK _ _ (hI.put trivial 10 rfl trivial (hI.st.s2 (by decide) p4 hLi ho hg hv)))
    refine .cons (fun V Ld a W hLi hpre hR hI KK hK => ?_) ?_
    ·
     have p10 := pm hpre 10 (by kernel_rfl)
     obtain ⟨A', c', e', -⟩ := (hI.st.o2 p10).toP
     exact J_build rfl _ _ rfl (by simp only [List.map_toArray, List.map_cons, List.map_nil, hR.ev 10 rfl rfl p10, e']; exact build_desk _ _ _ _) (hK _ _ (hI.put trivial 11 rfl trivial (hI.st.s3 (by decide) p10 (by rw [e']))))
    refine .cons (fun V Ld a W hLi hpre hR hI KK hK => ?_) ?_
    ·
     exact J_alloc rfl _ rfl (al_desk W) (hK _ _ (hI.put trivial 12 rfl trivial (hI.st.sa (by decide) hLi)))
    refine .cons (fun V Ld a W hLi hpre hR hI KK hK => ?_) trivial
    ·
     have p12 := pm hpre 12 (by kernel_rfl)
     have p11 := pm hpre 11 (by kernel_rfl)
     obtain ⟨w', hr, hn⟩ := hI.st.ss (by decide) hLi p11 p12
     exact J_store rfl _ (.tmp 7) (.tmp 40) rfl (by rw [hR.ev 12 rfl rfl p12, hR.ev 11 rfl rfl p11]; exact hr) (hK _ _ (hI.put trivial 13 rfl trivial (hn _)))
   case refine_3 =>
    intro V Ld w5 hLd hI
    obtain ⟨nb, en, hnb, hnl, hno, hcell, hown⟩ := hI.st.fin (hLd 13 (by decide))
    have hb5 := hI.st.b
    clear hI hLd
    simp only [finL, putL, Act.put, Nat.reduceAdd]
    rw [en]
    clear en
    have HNB := Lib.hid hnb
    have HC5 := Lib.hid hcell
    have HB5 := Lib.hid hb5
    have HN5 := Lib.hid (show DeskN nb w5 (bx + 1 + 1) (V 10) (.slice none 0 0) ⟨D.cs.eraseIdx m, []⟩ from by
     refine ⟨⟨_, hown.mono (by have := HG.out.z.lt; omega), (((HX2.out.mono (Q := fun b => bx + 1 + 1 ≤ b ∧ b < w4.heap.size) (fun b hb h => ⟨h.1, hb⟩)).keep (Kpt.below hb5)).erase HML.out).mono (fun b _ h => ⟨h.1, fun e => ?_, fun e => (by cases e), by have := h.2; omega⟩)⟩, ElOwn.nil _ _ _ _, fun b _ e => (by cases e), hno, fun e => (by cases e)⟩
     have := (World.ownsRow.lt hown b e).1; have := h.2; omega)
    obtain ⟨AN, cN, eN, -⟩ := hown.toP
    have HVN := Lib.hid eN
    clear hcell hown hb5 hno hnl
    generalize V 10 = vn at *
    have hvn : vn = .slice AN (X.eraseIdx m).length cN := HVN.out
    subst hvn
    generalize (X.eraseIdx m).length = nN at *
    generalize V 0 = v0, V 1 = v1
    generalize V 2 = v2, V 3 = v3
    generalize V 4 = v4, V 5 = v5
    generalize V 6 = v6, V 7 = v7
    generalize V 8 = v8, V 9 = v9, V 11 = v11
    clear V
    simp only [List.setIfInBounds_toArray, List.set_cons_succ, List.set_cons_zero]
    go_wp2_with fail
    go_loopw [8] (fun i wr => ∃ (k : Nat) (vk : Value), k ≤ D.ks.length ∧ i = .int .i64 k ∧ Below w4.heap.size w4 wr ∧ DeskCell wr nb (.slice AN nN cN) vk ∧ DeskN nb wr (bx + 1 + 1) (.slice AN nN cN) vk ⟨D.cs.eraseIdx m, kepK (ofC id) D.ks k⟩ ∧ ∀ b, vk.ownBlock = some b → w4.heap.size ≤ b) (fun i _ => D.ks.length - (intOf i).toNat)
    case atStart => exact ⟨0, _, Nat.zero_le _, rfl, HB5.out, HC5.out, HN5.out, fun b e => by cases e⟩
    case round =>
     obtain ⟨k, vk, hk, rfl, hbr, hcr, hnr, hvk⟩ := hrel
     have HBR := Lib.hid hbr
     have HCR := Lib.hid hcr
     have HNR := Lib.hid hnr
     have HVK := Lib.hid hvk
     have HGK := Lib.hid (HG.out.below hbr)
     obtain ⟨AK, cK, ek, -⟩ := hnr.ks.toP
     subst ek
     have d0 := HGK.out.d.c0
     have d1 := HGK.out.d.c1
     have dl := HGK.out.d.lt
     clear hbr hcr hnr hvk
     by_cases hlk : k < D.ks.length
     ·
      obtain ⟨kb, ko, rfl, hkb, hkp, x0, x1, x2, x3, x4⟩ := (HKP.out.below HBR.out).case hlk
      have hk0 : (0 : Int) ≤ (k : Int) := by omega
      have hkl : (k : Int) < (D.ks.length : Int) := by omega
      have hk1 : (k : Int) ≤ 1000 := by have := HS.out.lk; omega
      obtain ⟨x, hxd⟩ : ∃ x, x = kAt D.ks k := ⟨_, rfl⟩
      have HXD := Lib.hid hxd
      rw [← hxd] at x0 x1 x2 x3 x4
      clear hxd
      cases hxc : x.c == id with
      | true =>
       have HKE := Lib.hid (show kepK (ofC id) D.ks (k + 1) = kepK (ofC id) D.ks k from kepK_del hlk (by rw [← HXD.out]; exact hxc))
       have hxn : (x.c != id) = false := by simp [bne, hxc]
       go_wp2_with fail
       go_roundw
       case rel => exact ⟨k + 1, _, by omega, by go_num, HBR.out, HCR.out, by rw [HKE.out]; exact HNR.out, HVK.out⟩
       case measure => simp [intOf]; omega
      | false =>
       have HKE := Lib.hid (show kepK (ofC id) D.ks (k + 1) = kepK (ofC id) D.ks k ++ [x] from by rw [HXD.out]; exact kepK_keep hlk (by rw [← HXD.out]; exact hxc))
       have hxn : (x.c != id) = true := by simp [bne, hxc]
       have HKL := Lib.hid (show (kepK (ofC id) D.ks k).length ≤ D.ks.length from Nat.le_trans (List.length_filter_le _ _) (by simp; omega))
       go_upto_region 12 with fail
       obtain ⟨gv, cap, W2, hrun, ho2, hg2, hat⟩ := apk_run (w := wr.drew) (base := bx + 1 + 1) x (HNR.out.ks.below (Below.drew (Below.refl _ _))) (by have := HKL.out; have := HS.out.lk; show (kepK (ofC id) D.ks k).length + 1 ≤ _; omega) (by have := HGK.out.z.lt; show _ ≤ wr.heap.size; omega)
       have HRUN := Lib.hid hrun
       have HBS := Lib.hid (bs_case wr.drew x)
       have hnbl : nb < wr.heap.size := HCR.out.lt
       have hnv : (Value.slice AK (kepK (ofC id) D.ks k).length cK).ownBlock ≠ some nb := HNR.out.nv
       have HC1 := Lib.hid (show DeskCell (wr.drew.alloc (.cells (EK.f x).toArray 37)) nb (.slice AN nN cN) (.slice AK (kepK (ofC id) D.ks k).length cK) from (HCR.out.below (Below.drew (Below.refl _ _))).below (below_alloc _ _))
       have HC2 := Lib.hid (show DeskCell W2 nb (.slice AN nN cN) (.slice AK (kepK (ofC id) D.ks k).length cK) from (HCR.out.below (Below.drew (Below.refl _ _))).keep (hg2.block nb hnbl (fun e => hnv e.symm)))
       have HST := Lib.hid (st_ks HC2.out (some ⟨gv, 0, none⟩) ((kepK (ofC id) D.ks k).length + 1) cap)
       have HNC := Lib.hid (show ∀ W, (W = wr.drew ∨ W = wr.drew.alloc (.cells (EK.f x).toArray 37) ∨ W = W2) → W.cell? ⟨nb, 1, none⟩ = some (.slice AK (kepK (ofC id) D.ks k).length cK) from by
        rintro W (rfl | rfl | rfl)
        ·
         exact HCR.out.c1
        ·
         exact HC1.out.c1
        ·
         exact HC2.out.c1)
       have hkeep : ∀ W, (W = wr.drew ∨ W = wr.drew.alloc (.cells (EK.f x).toArray 37) ∨ W = W2 ∨ W = W2.setCell ⟨nb, 1, none⟩ (.slice (some ⟨gv, 0, none⟩) ((kepK (ofC id) D.ks k).length + 1) cap)) → ∀ b, b < w4.heap.size → W.heap[b]? = wr.heap[b]? := by
        have h2 : ∀ b, b < w4.heap.size → W2.heap[b]? = wr.heap[b]? := fun b hb => hg2.block b (by have := HBR.out.size; show b < wr.heap.size; omega) (fun e => by have := HVK.out b e.symm; omega)
        rintro W (rfl | rfl | rfl | rfl) b hb
        ·
         rfl
        ·
         exact Below.heap_alloc wr.drew _ b (by have := HBR.out.size; show b < wr.heap.size; omega)
        ·
         exact h2 b hb
        ·
         exact (Below.heap_setCell _ _ _ b (by show b ≠ nb; have := HNB.out; omega)).trans (h2 b hb)
       have hkb4 : kb < w4.heap.size := by
        have := HKP.out.case hlk
        obtain ⟨b', o', e', hb', -⟩ := this
        injection e' with e'; injection e' with e1 e2
        rw [e1]; exact hb'
       have HBC := Lib.hid (show ∀ W, (W = wr.drew ∨ W = wr.drew.alloc (.cells (EK.f x).toArray 37) ∨ W = W2 ∨ W = W2.setCell ⟨nb, 1, none⟩ (.slice (some ⟨gv, 0, none⟩) ((kepK (ofC id) D.ks k).length + 1) cap)) → W.cell? ⟨bx, 1, none⟩ = some (.slice (some ⟨kb, ko, none⟩) D.ks.length cb) ∧ W.cell? ⟨kb, ko + k * 5, none⟩ = some (.int .i64 x.c) ∧ W.cell? ⟨kb, ko + k * 5 + 1, none⟩ = some (.string x.r) ∧ W.cell? ⟨kb, ko + k * 5 + 2, none⟩ = some (.string x.o) ∧ W.cell? ⟨kb, ko + k * 5 + 3, none⟩ = some (.int .i64 x.t) ∧ W.cell? ⟨kb, ko + k * 5 + 4, none⟩ = some (.bool x.s) from by
        intro W hW
        have hbk := hkeep W hW bx (by have := HG.out.d.lt; omega)
        have hkk := hkeep W hW kb hkb4
        exact ⟨(World.cell?_of_block (w := wr) hbk).trans d1, (World.cell?_of_block (w := wr) hkk).trans x0, (World.cell?_of_block (w := wr) hkk).trans x1, (World.cell?_of_block (w := wr) hkk).trans x2, (World.cell?_of_block (w := wr) hkk).trans x3, (World.cell?_of_block (w := wr) hkk).trans x4⟩)
       have HBD := Lib.hid (show Below w4.heap.size w4 (W2.setCell ⟨nb, 1, none⟩ (.slice (some ⟨gv, 0, none⟩) ((kepK (ofC id) D.ks k).length + 1) cap)) from below_set (HBR.out.trans ((Below.refl w4.heap.size wr).grown (by exact ⟨hg2.os, hg2.tape, hg2.output, hg2.size, hg2.block⟩) HBR.out.size (fun j hj => HVK.out j hj))) ⟨nb, 1, none⟩ _ HNB.out)
       have HN2 := Lib.hid (show DeskN nb (W2.setCell ⟨nb, 1, none⟩ (.slice (some ⟨gv, 0, none⟩) ((kepK (ofC id) D.ks k).length + 1) cap)) (bx + 1 + 1) (.slice AN nN cN) (.slice (some ⟨gv, 0, none⟩) ((kepK (ofC id) D.ks k).length + 1) cap) ⟨D.cs.eraseIdx m, kepK (ofC id) D.ks (k + 1)⟩ from by
        rw [HKE.out]
        exact ((HNR.out.below (Below.drew (Below.refl _ _))).push (w := wr.drew) hnbl ho2 hg2 hat).set 1 _)
       have HV2 := Lib.hid (show ∀ b, (Value.slice (some ⟨gv, 0, none⟩) ((kepK (ofC id) D.ks k).length + 1) cap).ownBlock = some b → w4.heap.size ≤ b from by
        intro b e
        have e : some gv = some b := e
        injection e with e
        rcases hat with h0 | h0
        ·
         have := HVK.out gv h0; omega
        ·
         have := HBR.out.size; have h0 : wr.heap.size ≤ gv := h0; omega)
       generalize hvk2 : Value.slice AK (kepK (ofC id) D.ks k).length cK = vk at *
       generalize hv2 : Value.slice (some ⟨gv, 0, none⟩) ((kepK (ofC id) D.ks k).length + 1) cap = vz at *
       have HE2 := Lib.hid hv2
       clear hvk2 hv2 hrun ho2 hg2 hat hkeep hkb4 x0 x1 x2 x3 x4 d0 d1 dl hnv hkb hkp
       refine wp_region_J2 (GI (R := fun _ _ => True) [Pr.eq (.pointer (some ⟨nb, 1, none⟩)), Pr.eq (vk), Pr.eq (.pointer (some ⟨bx, 1, none⟩)), Pr.eq (.slice (some ⟨kb, ko, none⟩) D.ks.length cb), Pr.eq (.int .i64 (k : Int)), Pr.eq (.pointer (some ⟨kb, ko + k * 5, none⟩)), Pr.eq (caseV x), Pr.eq (.slice (some ⟨wr.heap.size, 0, none⟩) 1 1), Pr.eq (vz), Pr.eq (.pointer (some ⟨nb, 1, none⟩)), Pr.any] (fun V => ChT 1 7 8 10 wr.drew (wr.drew.alloc (.cells (EK.f x).toArray 37)) W2 (W2.setCell ⟨nb, 1, none⟩ vz))) (by kernel_rfl) (by kernel_rfl) (by kernel_rfl) ?_ ?_ ?_
       case refine_1 => exact fun V => GI.start (ChT.start _ _ _ _ _ _ _ _)
       case refine_2 =>
        refine .cons (fun V Ld a W hLi hpre hR hI KK hK => ?_) ?_
        ·
         have o7 := (hR.old 7 (by kernel_rfl)).trans (show _ = Value.pointer (some ⟨nb, 0, none⟩) from rfl)
         exact J_fieldAddr rfl _ (.tmp 7) 1 rfl (by rw [o7]; go_simp) (hK _ _ (hI.put0 0 rfl rfl (hI.st.mv _ (by decide))))
        refine .cons (fun V Ld a W hLi hpre hR hI KK hK => ?_) ?_
        ·
         have f0 := hI.ef hR hpre 0 rfl rfl rfl (by kernel_rfl)
         obtain c1 := HNC.out W (hI.st.early (hI.st.fz hLi))
         exact J_load rfl _ (.tmp 56) rfl (by rw [f0]; go_simp) (hK _ _ (hI.put0 1 rfl rfl (hI.st.mv _ (by decide))))
        refine .cons (fun V Ld a W hLi hpre hR hI KK hK => ?_) ?_
        ·
         have o2 := (hR.old 2 (by kernel_rfl)).trans (show _ = Value.pointer (some ⟨bx, 0, none⟩) from rfl)
         exact J_fieldAddr rfl _ (.tmp 2) 1 rfl (by rw [o2]; go_simp) (hK _ _ (hI.put0 2 rfl rfl (hI.st.mv _ (by decide))))
        refine .cons (fun V Ld a W hLi hpre hR hI KK hK => ?_) ?_
        ·
         have f2 := hI.ef hR hpre 2 rfl rfl rfl (by kernel_rfl)
         have c1 := (HBC.out W hI.st.any_).1
         exact J_load rfl _ (.tmp 58) rfl (by rw [f2]; go_simp) (hK _ _ (hI.put0 3 rfl rfl (hI.st.mv _ (by decide))))
        refine .cons (fun V Ld a W hLi hpre hR hI KK hK => ?_) ?_
        ·
         have o8 := (hR.old 8 (by kernel_rfl)).trans (show _ = Value.int .i64 (k : Int) from rfl)
         exact G_move rfl (.tmp 8) rfl o8 (hK _ _ (hI.put0 4 rfl rfl (hI.st.mv _ (by decide))))
        refine .cons (fun V Ld a W hLi hpre hR hI KK hK => ?_) ?_
        ·
         have f3 := hI.ef hR hpre 3 rfl rfl rfl (by kernel_rfl)
         have f4 := hI.ef hR hpre 4 rfl rfl rfl (by kernel_rfl)
         exact J_indexAddr rfl _ (.tmp 59) (.tmp 60) rfl (by rw [f3, f4]; go_simp <;> (intro h; omega)) (hK _ _ (hI.put0 5 rfl rfl (hI.st.mv _ (by decide))))
        refine .cons (fun V Ld a W hLi hpre hR hI KK hK => ?_) ?_
        ·
         have f5 := hI.ef hR hpre 5 rfl rfl rfl (by kernel_rfl)
         obtain ⟨-, x0, x1, x2, x3, x4⟩ := HBC.out W hI.st.any_
         exact J_load rfl _ (.tmp 61) rfl (by rw [f5]; go_simp) (hK _ _ (hI.put0 6 rfl rfl (hI.st.mv _ (by decide))))
        refine .cons (fun V Ld a W hLi hpre hR hI KK hK => ?_) ?_
        ·
         have f6 := hI.ef hR hpre 6 rfl rfl rfl (by kernel_rfl)
         have ew := hI.st.w0 hLi
         subst ew
         exact J_buildSlice rfl _ 1 _ rfl (by simp only [List.map_toArray, List.map_cons, List.map_nil, f6]; exact HBS.out) (hK _ _ (hI.put trivial 7 rfl rfl (hI.st.s1 (by decide) hLi)))
        refine .cons (fun V Ld a W hLi hpre hR hI KK hK => ?_) ?_
        ·
         have p1 := pm hpre 1 (by kernel_rfl)
         have f1 := hI.ef hR hpre 1 rfl rfl rfl (by kernel_rfl)
         have p7 := pm hpre 7 (by kernel_rfl)
         have f7 := hI.ef hR hpre 7 rfl rfl rfl (by kernel_rfl)
         have ew := hI.st.w1 p7 hLi
         subst ew
         exact G_bapp rfl (.tmp 57) (.tmp 63) _ rfl (by rw [f1, f7]; exact HRUN.out) (hK _ _ (hI.put trivial 8 rfl rfl (hI.st.s2 (by decide) p1 p7 hLi)))
        refine .cons (fun V Ld a W hLi hpre hR hI KK hK => ?_) ?_
        ·
         have o7 := (hR.old 7 (by kernel_rfl)).trans (show _ = Value.pointer (some ⟨nb, 0, none⟩) from rfl)
         exact J_fieldAddr rfl _ (.tmp 7) 1 rfl (by rw [o7]; go_simp) (hK _ _ (hI.put0 9 rfl rfl (hI.st.mv _ (by decide))))
        refine .cons (fun V Ld a W hLi hpre hR hI KK hK => ?_) trivial
        ·
         have f9 := hI.ef hR hpre 9 rfl rfl rfl (by kernel_rfl)
         have p8 := pm hpre 8 (by kernel_rfl)
         have f8 := hI.ef hR hpre 8 rfl rfl rfl (by kernel_rfl)
         have ew := hI.st.w2 p8 hLi
         subst ew
         exact J_store rfl _ (.tmp 65) (.tmp 64) rfl (by rw [f9, f8]; exact HST.out) (hK _ _ (hI.put trivial 10 rfl trivial (hI.st.s3 (by decide) p8)))
       case refine_3 =>
        intro V Ld w9 hLd hI
        have ew := hI.st.w3 (hLd 10 (by decide))
        clear hI hLd
        subst ew
        simp only [finL, putL, Act.put, Nat.reduceAdd]
        generalize V 0 = v0, V 1 = v1
        generalize V 2 = v2, V 3 = v3
        generalize V 4 = v4, V 5 = v5
        generalize V 6 = v6, V 7 = v7
        generalize V 8 = v8, V 9 = v9
        clear V
        simp only [List.setIfInBounds_toArray, List.set_cons_succ, List.set_cons_zero]
        have HCE := Lib.hid (show DeskCell (W2.setCell ⟨nb, 1, none⟩ vz) nb (.slice AN nN cN) vz from HC2.out.set1 _)
        generalize W2.setCell ⟨nb, 1, none⟩ vz = W3 at *
        go_wp2_with fail
        go_roundw
        case rel => exact ⟨k + 1, vz, by omega, by go_num, HBD.out, HCE.out, HN2.out, HV2.out⟩
        case measure => simp [intOf]; omega
     ·
      obtain rfl : D.ks.length = k := by omega
      have hkl : ¬ (D.ks.length : Int) < (D.ks.length : Int) := by omega
      have HN0 := Lib.hid (show DeskN nb wr (bx + 1 + 1) (.slice AN nN cN) (.slice AK (kepK (ofC id) D.ks D.ks.length).length cK) (lv0 D id) from by
       have h0 : lv0 D id = ⟨D.cs.eraseIdx m, kepK (ofC id) D.ks D.ks.length⟩ := by unfold lv0 outC; rw [HF.out, Int.toNat_natCast, kepK_end]
       rw [h0]; exact HNR.out)
      generalize (kepK (ofC id) D.ks D.ks.length).length = nK at *
      go_wp2_with fail
      refine (refUnseen_any _ id D wr HGK.out.o.read (by have := HS.out.lk; omega)).mono ?_
      rintro e w13 ⟨v13, rfl, ho13, hb13⟩
      obtain ⟨AU, cU, rfl, hU⟩ := ho13.toP
      have HU := Lib.hid (show ElP EK (fun b => b ≠ nb) w13 AU cU (unseenL D.ks id) from hU.mono fun b _ h => by have := h.2; have := HCR.out.lt; omega)
      have HC13 := Lib.hid (HCR.out.below hb13)
      have HN13 := Lib.hid (HN0.out.below hb13)
      have HB13 := Lib.hid (show Below w4.heap.size w4 w13 from HBR.out.trans (hb13.mono HBR.out.size))
      have HUL := Lib.hid (show (unseenL D.ks id).length ≤ D.ks.length from List.length_filter_le _ _)
      clear ho13 hb13 hU d0 d1 dl
      have HUS := Lib.hid HY.out.lk
      generalize hU : unseenL D.ks id = U at *
      have HUE := Lib.hid hU
      clear hU HBR HCR HNR HVK HGK HN0
      go_wp2_with fail
      go_loopw [10] (fun i wr => ∃ (k : Nat) (O : DeskD) (uv xv : Value), k ≤ U.length ∧ i = .int .i64 k ∧ LvI D id k O ∧ Below w4.heap.size w4 wr ∧ DeskCell wr nb uv xv ∧ DeskN nb wr (bx + 1 + 1) uv xv O ∧ ElP EK (fun b => b ≠ nb) wr AU cU U) (fun i _ => U.length - (intOf i).toNat)
      case atStart => exact ⟨0, lv0 D id, _, _, Nat.zero_le _, rfl, LvI.start HS.out, HB13.out, HC13.out, HN13.out, HU.out⟩
      case round =>
       obtain ⟨k, O, uv, xv, hk, rfl, hI, hbr, hcr, hnr, hur⟩ := hrel
       have HI := Lib.hid hI
       have HBR := Lib.hid hbr
       have HCR := Lib.hid hcr
       have HNR := Lib.hid hnr
       have HUR := Lib.hid hur
       obtain ⟨uA, uc, xA, xc, rfl, rfl⟩ := hnr.o.forms
       clear hI hbr hcr hnr hur
       by_cases hlt : k < U.length
       ·
        obtain ⟨kb, ko, rfl, hbl, hko, c0, c1, c2, c3, c4⟩ := HUR.out.case hlt
        have hk0 : (0 : Int) ≤ (k : Int) := by omega
        have hkl2 : (k : Int) < (U.length : Int) := by omega
        have hkD : k ≤ 256 := by have := HUL.out; have := HUS.out; omega
        have HSO := Lib.hid (HI.out.small HS.out (by have := HUS.out; omega))
        obtain ⟨c, hcd⟩ : ∃ c, c = kAt U k := ⟨_, rfl⟩
        have HCD := Lib.hid (show c = kAt (unseenL D.ks id) k from by rw [HUE.out]; exact hcd)
        have hmem : ∃ i, i < D.ks.length ∧ kAt D.ks i = c := by
         have hm := kAt_in (K := unseenL D.ks id) (k := k) (by rw [HUE.out]; exact hlt)
         rw [← HCD.out] at hm
         obtain ⟨i, hi, e⟩ := kAt_of (List.mem_filter.1 hm).1
         exact ⟨i, hi, e⟩
        have HRS := Lib.hid (show c.r.size ≤ maxLen from by
         obtain ⟨i, hi, e⟩ := hmem
         rw [← e]; exact (HS.out.ca i hi).1)
        have HT0 := Lib.hid (show 0 ≤ c.t from by
         obtain ⟨i, hi, e⟩ := hmem
         rw [← e]; exact (cas_of.1 (HY.out.cas i hi)).time.1)
        rw [← hcd] at c0 c1 c2 c3 c4
        have C1 := Lib.hid c1
        have C2 := Lib.hid c2
        have LKB := Lib.hid hbl
        clear hcd hmem c0 c1 c2 c4
        have n1 := HCR.out.c1
        have nl := HCR.out.lt
        have HGV := Lib.hid (fun (W : World) (hg : wr.grownBy W none) => refGive_any (.agg #[.slice uA O.cs.length uc, .slice xA O.ks.length xc]) c.r c.o (mxI c.t (lastT O.ks)) O W (HNR.out.o.below (below_none hg)).read HSO.out)
        rcases Nat.eq_zero_or_pos O.ks.length with hz | hz
        ·
         have HT := Lib.hid (show c.t = mxI c.t (lastT O.ks) from by rw [lastT_nil hz]; unfold mxI; rw [if_neg (by have := HT0.out; omega)])
         have z0 : ¬ (0 : Int) < (O.ks.length : Int) := by omega
         clear hz
         go_upto_region 21 with fail
         rw [HT.out]
         skip
         refine wp_region_J2 (GI (R := fun _ _ => True) [Pr.eq (.agg #[.slice uA O.cs.length uc, .slice xA O.ks.length xc]), Pr.eq (.slice (some ⟨kb, ko, none⟩) U.length cU), Pr.eq (.int .i64 (k : Int)), Pr.eq (.pointer (some ⟨kb, ko + k * 5, none⟩)), Pr.eq (.pointer (some ⟨kb, ko + k * 5 + 1, none⟩)), Pr.eq (.string c.r), Pr.eq (.slice (some ⟨kb, ko, none⟩) U.length cU), Pr.eq (.int .i64 (k : Int)), Pr.eq (.pointer (some ⟨kb, ko + k * 5, none⟩)), Pr.eq (.pointer (some ⟨kb, ko + k * 5 + 2, none⟩)), Pr.eq (.string c.o), Pr.eq (.int .i64 (mxI c.t (lastT O.ks))), Pr.any, Pr.any, Pr.any, Pr.eq (.int .i64 (giveI O c.r c.o (mxI c.t (lastT O.ks)))), Pr.eq (.int .i64 (giveE O c.r c.o (mxI c.t (lastT O.ks)))), Pr.any, Pr.any, Pr.eq (.int .i64 (giveI O c.r c.o (mxI c.t (lastT O.ks)))), Pr.eq (.int .i64 (giveE O c.r c.o (mxI c.t (lastT O.ks))))] (DvJ wr none 12 13 14 17 18 (lvF O c) (giveD O c.r c.o (mxI c.t (lastT O.ks))))) (by kernel_rfl) (by kernel_rfl) (by kernel_rfl) ?_ ?_ ?_
         case refine_1 => exact fun V => GI.start (DvJ.start (fun _ e => by cases e) V)
         case refine_2 =>
          refine .cons (fun V Ld a W hLi hpre hR hI KK hK => ?_) ?_
          ·
           have o7 := (hR.old 7 (by kernel_rfl)).trans (show _ = Value.pointer (some ⟨nb, 0, none⟩) from rfl)
           have hc := HCR.out.keep (hI.st.b.block _ HCR.out.lt (by simp))
           exact J_load rfl _ (.tmp 7) rfl (by rw [o7]; exact ld_desk hc) (hK _ _ (hI.put0 0 rfl rfl (hI.st.mv _ (by decide) (Below.refl _ _))))
          refine .cons (fun V Ld a W hLi hpre hR hI KK hK => ?_) ?_
          ·
           have o9 := (hR.old 9 (by kernel_rfl)).trans (show _ = Value.slice (some ⟨kb, ko, none⟩) U.length cU from rfl)
           exact G_move rfl (.tmp 9) rfl o9 (hK _ _ (hI.put0 1 rfl rfl (hI.st.mv _ (by decide) (Below.refl _ _))))
          refine .cons (fun V Ld a W hLi hpre hR hI KK hK => ?_) ?_
          ·
           have o10 := (hR.old 10 (by kernel_rfl)).trans (show _ = Value.int .i64 (k : Int) from rfl)
           exact G_move rfl (.tmp 10) rfl o10 (hK _ _ (hI.put0 2 rfl rfl (hI.st.mv _ (by decide) (Below.refl _ _))))
          refine .cons (fun V Ld a W hLi hpre hR hI KK hK => ?_) ?_
          ·
           have f1 := hI.ef hR hpre 1 rfl rfl rfl (by kernel_rfl)
           have f2 := hI.ef hR hpre 2 rfl rfl rfl (by kernel_rfl)
           exact J_indexAddr rfl _ (.tmp 96) (.tmp 97) rfl (by rw [f1, f2]; go_simp <;> (intro h; omega)) (hK _ _ (hI.put0 3 rfl rfl (hI.st.mv _ (by decide) (Below.refl _ _))))
          refine .cons (fun V Ld a W hLi hpre hR hI KK hK => ?_) ?_
          ·
           have f3 := hI.ef hR hpre 3 rfl rfl rfl (by kernel_rfl)
           exact J_fieldAddr rfl _ (.tmp 98) 1 rfl (by rw [f3]; go_simp) (hK _ _ (hI.put0 4 rfl rfl (hI.st.mv _ (by decide) (Below.refl _ _))))
          refine .cons (fun V Ld a W hLi hpre hR hI KK hK => ?_) ?_
          ·
           have f4 := hI.ef hR hpre 4 rfl rfl rfl (by kernel_rfl)
           have c1 := (World.cell?_of_block (w := wr) (hI.st.b.block kb LKB.out (by simp))).trans C1.out
           have c2 := (World.cell?_of_block (w := wr) (hI.st.b.block kb LKB.out (by simp))).trans C2.out
           exact J_load rfl _ (.tmp 99) rfl (by rw [f4]; go_simp) (hK _ _ (hI.put0 5 rfl rfl (hI.st.mv _ (by decide) (Below.refl _ _))))
          refine .cons (fun V Ld a W hLi hpre hR hI KK hK => ?_) ?_
          ·
           have o9 := (hR.old 9 (by kernel_rfl)).trans (show _ = Value.slice (some ⟨kb, ko, none⟩) U.length cU from rfl)
           exact G_move rfl (.tmp 9) rfl o9 (hK _ _ (hI.put0 6 rfl rfl (hI.st.mv _ (by decide) (Below.refl _ _))))
          refine .cons (fun V Ld a W hLi hpre hR hI KK hK => ?_) ?_
          ·
           have o10 := (hR.old 10 (by kernel_rfl)).trans (show _ = Value.int .i64 (k : Int) from rfl)
           exact G_move rfl (.tmp 10) rfl o10 (hK _ _ (hI.put0 7 rfl rfl (hI.st.mv _ (by decide) (Below.refl _ _))))
          refine .cons (fun V Ld a W hLi hpre hR hI KK hK => ?_) ?_
          ·
           have f6 := hI.ef hR hpre 6 rfl rfl rfl (by kernel_rfl)
           have f7 := hI.ef hR hpre 7 rfl rfl rfl (by kernel_rfl)
           exact J_indexAddr rfl _ (.tmp 101) (.tmp 102) rfl (by rw [f6, f7]; go_simp <;> (intro h; omega)) (hK _ _ (hI.put0 8 rfl rfl (hI.st.mv _ (by decide) (Below.refl _ _))))
          refine .cons (fun V Ld a W hLi hpre hR hI KK hK => ?_) ?_
          ·
           have f8 := hI.ef hR hpre 8 rfl rfl rfl (by kernel_rfl)
           exact J_fieldAddr rfl _ (.tmp 103) 2 rfl (by rw [f8]; go_simp) (hK _ _ (hI.put0 9 rfl rfl (hI.st.mv _ (by decide) (Below.refl _ _))))
          refine .cons (fun V Ld a W hLi hpre hR hI KK hK => ?_) ?_
          ·
           have f9 := hI.ef hR hpre 9 rfl rfl rfl (by kernel_rfl)
           have c1 := (World.cell?_of_block (w := wr) (hI.st.b.block kb LKB.out (by simp))).trans C1.out
           have c2 := (World.cell?_of_block (w := wr) (hI.st.b.block kb LKB.out (by simp))).trans C2.out
           exact J_load rfl _ (.tmp 104) rfl (by rw [f9]; go_simp) (hK _ _ (hI.put0 10 rfl rfl (hI.st.mv _ (by decide) (Below.refl _ _))))
          refine .cons (fun V Ld a W hLi hpre hR hI KK hK => ?_) ?_
          ·
           have o11 := (hR.old 11 (by kernel_rfl)).trans (show _ = Value.int .i64 (mxI c.t (lastT O.ks)) from rfl)
           exact G_move rfl (.tmp 11) rfl o11 (hK _ _ (hI.put0 11 rfl rfl (hI.st.mv _ (by decide) (Below.refl _ _))))
          refine .cons (fun V Ld a W hLi hpre hR hI KK hK => ?_) ?_
          ·
           have f0 := hI.ef hR hpre 0 rfl rfl rfl (by kernel_rfl)
           have f5 := hI.ef hR hpre 5 rfl rfl rfl (by kernel_rfl)
           have f10 := hI.ef hR hpre 10 rfl rfl rfl (by kernel_rfl)
           have f11 := hI.ef hR hpre 11 rfl rfl rfl (by kernel_rfl)
           refine J_call rfl _ _ _ rfl enter_rgive (by simp only [List.map_toArray, List.map_cons, List.map_nil, f0, f5, f10, f11]) (HGV.out W hI.st.b) ?_
           rintro e w' ⟨u, x, rfl, ho, hb⟩
           exact ⟨_, rfl, hK _ _ (hI.put trivial 12 rfl trivial (hI.st.oc (F := lvF O c) (by decide) hLi hb ho))⟩
          refine .cons (fun V Ld a W hLi hpre hR hI KK hK => ?_) ?_
          ·
           have p12 := pm hpre 12 (by kernel_rfl)
           exact G_move rfl (.tmp 107) rfl (hR.ev 12 rfl rfl p12) (hK _ _ (hI.put0 13 rfl trivial (hI.st.om (by decide) hLi p12 rfl)))
          refine .cons (fun V Ld a W hLi hpre hR hI KK hK => ?_) ?_
          ·
           have p13 := pm hpre 13 (by kernel_rfl)
           obtain ⟨q12, q13⟩ := hI.st.em p13
           obtain ⟨u, x, eq, -⟩ := hI.st.val q12
           exact J_extract rfl (.tmp 94) 0 rfl ((hR.ev 13 rfl rfl p13).trans (q13.trans eq)) rfl (hK _ _ (hI.put0 14 rfl trivial (hI.st.oe (by decide) hLi p13 (fun u' x' e' => lvF_agg (lvF_inj (eq.symm.trans (q13.symm.trans e')))))))
          refine .cons (fun V Ld a W hLi hpre hR hI KK hK => ?_) ?_
          ·
           have p13 := pm hpre 13 (by kernel_rfl)
           obtain ⟨q12, q13⟩ := hI.st.em p13
           obtain ⟨u, x, eq, -⟩ := hI.st.val q12
           exact J_extract rfl (.tmp 94) 1 rfl ((hR.ev 13 rfl rfl p13).trans (q13.trans eq)) rfl (hK _ _ (hI.put0 15 rfl rfl (hI.st.mv _ (by decide) (Below.refl _ _))))
          refine .cons (fun V Ld a W hLi hpre hR hI KK hK => ?_) ?_
          ·
           have p13 := pm hpre 13 (by kernel_rfl)
           obtain ⟨q12, q13⟩ := hI.st.em p13
           obtain ⟨u, x, eq, -⟩ := hI.st.val q12
           exact J_extract rfl (.tmp 94) 2 rfl ((hR.ev 13 rfl rfl p13).trans (q13.trans eq)) rfl (hK _ _ (hI.put0 16 rfl rfl (hI.st.mv _ (by decide) (Below.refl _ _))))
          refine .cons (fun V Ld a W hLi hpre hR hI KK hK => ?_) ?_
          ·
           exact J_alloc rfl _ rfl (al_desk W) (hK _ _ (hI.put trivial 17 rfl trivial (hI.st.oa (by decide) hLi)))
          refine .cons (fun V Ld a W hLi hpre hR hI KK hK => ?_) ?_
          ·
           have p17 := pm hpre 17 (by kernel_rfl)
           have p14 := pm hpre 14 (by kernel_rfl)
           obtain ⟨w', hr, hn⟩ := hI.st.os (by decide) hLi p14 p17
           exact J_store rfl _ (.tmp 13) (.tmp 108) rfl (by rw [hR.ev 17 rfl rfl p17, hR.ev 14 rfl rfl p14]; exact hr) (hK _ _ (hI.put trivial 18 rfl trivial (hn _)))
          refine .cons (fun V Ld a W hLi hpre hR hI KK hK => ?_) ?_
          ·
           have f15 := hI.ef hR hpre 15 rfl rfl rfl (by kernel_rfl)
           exact G_assign rfl (.tmp 109) rfl f15 (hK _ _ (hI.put0 19 rfl rfl (hI.st.mv _ (by decide) (Below.refl _ _))))
          refine .cons (fun V Ld a W hLi hpre hR hI KK hK => ?_) trivial
          ·
           have f16 := hI.ef hR hpre 16 rfl rfl rfl (by kernel_rfl)
           exact G_assign rfl (.tmp 110) rfl f16 (hK _ _ (hI.put0 20 rfl rfl (hI.st.mv _ (by decide) (Below.refl _ _))))
         case refine_3 =>
          intro V Ld w15 hLd hI
          have e17 : V 19 = _ := hI.val 19 _ rfl (hLd 19 (by decide))
          have e18 : V 20 = _ := hI.val 20 _ rfl (hLd 20 (by decide))
          obtain ⟨xb, u15, x15, e15, hnb, hnl, -, hcell, hdo⟩ := hI.st.fin (hLd 18 (by decide))
          have hb15 := below_none hI.st.b
          clear hI hLd
          simp only [finL, putL, Act.put, Nat.reduceAdd]
          rw [e15, e17, e18]
          clear e15 e17 e18
          have HBW := Lib.hid hb15
          have hob : nb < wr.heap.size := HCR.out.lt
          have HN15 := Lib.hid (DeskN.of_lo (N := nb) hdo (by omega))
          have HNC := Lib.hid hcell
          have HO15 := Lib.hid (HCR.out.below hb15)
          obtain ⟨A15, ca15, B15, cb15, rfl, rfl⟩ := hdo.forms
          have HBD := Lib.hid (show Below w4.heap.size w4 w15 from HBR.out.trans (hb15.mono HBR.out.size))
          clear hcell hdo hb15
          generalize V 0 = v0, V 1 = v1
          generalize V 2 = v2, V 3 = v3
          generalize V 4 = v4, V 5 = v5
          generalize V 6 = v6, V 7 = v7
          generalize V 8 = v8, V 9 = v9
          generalize V 10 = v10, V 11 = v11
          generalize V 12 = v12, V 13 = v13
          generalize V 14 = v14, V 15 = v15, V 16 = v16
          clear V
          simp only [List.setIfInBounds_toArray, List.set_cons_succ, List.set_cons_zero]
          have HGE := Lib.hid (show giveE O c.r c.o (lvT O c) = giveE O c.r c.o (mxI c.t (lastT O.ks)) from rfl)
          have HGI := Lib.hid (show giveD O c.r c.o (lvT O c) = giveD O c.r c.o (mxI c.t (lastT O.ks)) from rfl)
          generalize giveE O c.r c.o (mxI c.t (lastT O.ks)) = er at *
          generalize giveI O c.r c.o (mxI c.t (lastT O.ks)) = ei at *
          by_cases he : er = 0
          ·
           have HN := Lib.hid (show LvI D id (k + 1) (giveD O c.r c.o (mxI c.t (lastT O.ks))) from by
            have := HI.out.step HS.out (k := k) (by rw [HUE.out]; exact hlt) (by rw [← HCD.out, HGE.out]; exact he)
            rw [← HCD.out, HGI.out] at this
            exact this)
           subst he
           have n0 := HNC.out.c0
           have n1' := HNC.out.c1
           have o0 := HO15.out.c0
           have o1 := HO15.out.c1
           have of0 := HO15.out.fz 0
           have of1 := HO15.out.fz 1
           have ol := HO15.out.lt
           go_wp2_with fail
           go_roundw
           case rel =>
            refine ⟨k + 1, _, _, _, by omega, by go_num, HN.out, below_set (below_set HBD.out ⟨nb, 0, none⟩ _ HNB.out) ⟨nb, 1, none⟩ _ HNB.out, (HO15.out.set0 _).set1 _, ((HN15.out.set 0 _).set 1 _).lower (by have := HG.out.d.lt; have := HG.out.z.lt; have := HBR.out.size; omega), ?_⟩
            exact (HUR.out.below HBW.out).keep (Kpt.trans (Kpt.set _ _ _ (fun b hb => hb)) (Kpt.set _ _ _ (fun b hb => hb)))
           case measure => simp [intOf]; omega
          ·
           have HE := Lib.hid (show leaveE D id = er ∧ leaveD D id = D from HI.out.bad HV.out (by have := HF.out; omega) (k := k) (by rw [HUE.out]; exact hlt) (by rw [← HCD.out, HGE.out]) he)
           have hez : (er == 0) = false := beq_eq_false_iff_ne.2 he
           have HGK := Lib.hid (HG.out.below HBD.out)
           have d0 := HGK.out.d.c0
           have d1 := HGK.out.d.c1
           have z0 := HGK.out.z.c0
           have z1 := HGK.out.z.c1
           have zf0 := HGK.out.z.fz 0
           have zf1 := HGK.out.z.fz 1
           have dl := HGK.out.d.lt
           have zl := HGK.out.z.lt
           clear he
           go_wp2_with fail
           refine bodyPost_ret (results_desk2 rfl _ _ (bx + 1) rfl ((HGK.out.z.set0 _).set1 _)) rfl ?_
           exact HGK.out.retL HBX.out.symm HGK.out.o (Nat.le_refl _) HE.out.1 HE.out.2
        ·
         obtain ⟨p, hp⟩ : ∃ p, O.ks.length = p + 1 := ⟨O.ks.length - 1, by omega⟩
         have z0 : (0 : Int) < (O.ks.length : Int) := by omega
         have z1 : (O.ks.length : Int) - 1 = (p : Int) := by omega
         have z2 : (0 : Int) ≤ (p : Int) := by omega
         have z3 : (p : Int) < (O.ks.length : Int) := by omega
         have z4 : (O.ks.length : Int) ≤ 1000 := by have := HSO.out.lk; omega
         obtain ⟨xA1, xca1, xB, xcc, ee, -, hxp⟩ := HNR.out.o.read
         injection ee with ee; injection ee with ee; injection ee with ee1 ee; injection ee with ee2 ee
         injection ee2 with ee3 ee4 ee5
         subst ee3 ee5
         obtain ⟨pb, po, rfl, hpb, -, y0, y1, y2, y3, y4⟩ := hxp.case (show p < O.ks.length by omega)
         have HLP := Lib.hid (show (kAt O.ks p).t = lastT O.ks from (lastT_at hp).symm)
         rw [HLP.out] at y3
         clear hz hp ee ee1 ee4 hxp y0 y1 y2 y4
         by_cases hmx : c.t < lastT O.ks
         ·
          have HT := Lib.hid (show lastT O.ks = mxI c.t (lastT O.ks) from mx_lt hmx)
          go_upto_region 21 with fail
          rw [HT.out]
          skip
          refine wp_region_J2 (GI (R := fun _ _ => True) [Pr.eq (.agg #[.slice uA O.cs.length uc, .slice (some ⟨pb, po, none⟩) O.ks.length xc]), Pr.eq (.slice (some ⟨kb, ko, none⟩) U.length cU), Pr.eq (.int .i64 (k : Int)), Pr.eq (.pointer (some ⟨kb, ko + k * 5, none⟩)), Pr.eq (.pointer (some ⟨kb, ko + k * 5 + 1, none⟩)), Pr.eq (.string c.r), Pr.eq (.slice (some ⟨kb, ko, none⟩) U.length cU), Pr.eq (.int .i64 (k : Int)), Pr.eq (.pointer (some ⟨kb, ko + k * 5, none⟩)), Pr.eq (.pointer (some ⟨kb, ko + k * 5 + 2, none⟩)), Pr.eq (.string c.o), Pr.eq (.int .i64 (mxI c.t (lastT O.ks))), Pr.any, Pr.any, Pr.any, Pr.eq (.int .i64 (giveI O c.r c.o (mxI c.t (lastT O.ks)))), Pr.eq (.int .i64 (giveE O c.r c.o (mxI c.t (lastT O.ks)))), Pr.any, Pr.any, Pr.eq (.int .i64 (giveI O c.r c.o (mxI c.t (lastT O.ks)))), Pr.eq (.int .i64 (giveE O c.r c.o (mxI c.t (lastT O.ks))))] (DvJ wr none 12 13 14 17 18 (lvF O c) (giveD O c.r c.o (mxI c.t (lastT O.ks))))) (by kernel_rfl) (by kernel_rfl) (by kernel_rfl) ?_ ?_ ?_
          case refine_1 => exact fun V => GI.start (DvJ.start (fun _ e => by cases e) V)
          case refine_2 =>
           refine .cons (fun V Ld a W hLi hpre hR hI KK hK => ?_) ?_
           ·
            have o7 := (hR.old 7 (by kernel_rfl)).trans (show _ = Value.pointer (some ⟨nb, 0, none⟩) from rfl)
            have hc := HCR.out.keep (hI.st.b.block _ HCR.out.lt (by simp))
            exact J_load rfl _ (.tmp 7) rfl (by rw [o7]; exact ld_desk hc) (hK _ _ (hI.put0 0 rfl rfl (hI.st.mv _ (by decide) (Below.refl _ _))))
           refine .cons (fun V Ld a W hLi hpre hR hI KK hK => ?_) ?_
           ·
            have o9 := (hR.old 9 (by kernel_rfl)).trans (show _ = Value.slice (some ⟨kb, ko, none⟩) U.length cU from rfl)
            exact G_move rfl (.tmp 9) rfl o9 (hK _ _ (hI.put0 1 rfl rfl (hI.st.mv _ (by decide) (Below.refl _ _))))
           refine .cons (fun V Ld a W hLi hpre hR hI KK hK => ?_) ?_
           ·
            have o10 := (hR.old 10 (by kernel_rfl)).trans (show _ = Value.int .i64 (k : Int) from rfl)
            exact G_move rfl (.tmp 10) rfl o10 (hK _ _ (hI.put0 2 rfl rfl (hI.st.mv _ (by decide) (Below.refl _ _))))
           refine .cons (fun V Ld a W hLi hpre hR hI KK hK => ?_) ?_
           ·
            have f1 := hI.ef hR hpre 1 rfl rfl rfl (by kernel_rfl)
            have f2 := hI.ef hR hpre 2 rfl rfl rfl (by kernel_rfl)
            exact J_indexAddr rfl _ (.tmp 96) (.tmp 97) rfl (by rw [f1, f2]; go_simp <;> (intro h; omega)) (hK _ _ (hI.put0 3 rfl rfl (hI.st.mv _ (by decide) (Below.refl _ _))))
           refine .cons (fun V Ld a W hLi hpre hR hI KK hK => ?_) ?_
           ·
            have f3 := hI.ef hR hpre 3 rfl rfl rfl (by kernel_rfl)
            exact J_fieldAddr rfl _ (.tmp 98) 1 rfl (by rw [f3]; go_simp) (hK _ _ (hI.put0 4 rfl rfl (hI.st.mv _ (by decide) (Below.refl _ _))))
           refine .cons (fun V Ld a W hLi hpre hR hI KK hK => ?_) ?_
           ·
            have f4 := hI.ef hR hpre 4 rfl rfl rfl (by kernel_rfl)
            have c1 := (World.cell?_of_block (w := wr) (hI.st.b.block kb LKB.out (by simp))).trans C1.out
            have c2 := (World.cell?_of_block (w := wr) (hI.st.b.block kb LKB.out (by simp))).trans C2.out
            exact J_load rfl _ (.tmp 99) rfl (by rw [f4]; go_simp) (hK _ _ (hI.put0 5 rfl rfl (hI.st.mv _ (by decide) (Below.refl _ _))))
           refine .cons (fun V Ld a W hLi hpre hR hI KK hK => ?_) ?_
           ·
            have o9 := (hR.old 9 (by kernel_rfl)).trans (show _ = Value.slice (some ⟨kb, ko, none⟩) U.length cU from rfl)
            exact G_move rfl (.tmp 9) rfl o9 (hK _ _ (hI.put0 6 rfl rfl (hI.st.mv _ (by decide) (Below.refl _ _))))
           refine .cons (fun V Ld a W hLi hpre hR hI KK hK => ?_) ?_
           ·
            have o10 := (hR.old 10 (by kernel_rfl)).trans (show _ = Value.int .i64 (k : Int) from rfl)
            exact G_move rfl (.tmp 10) rfl o10 (hK _ _ (hI.put0 7 rfl rfl (hI.st.mv _ (by decide) (Below.refl _ _))))
           refine .cons (fun V Ld a W hLi hpre hR hI KK hK => ?_) ?_
           ·
            have f6 := hI.ef hR hpre 6 rfl rfl rfl (by kernel_rfl)
            have f7 := hI.ef hR hpre 7 rfl rfl rfl (by kernel_rfl)
            exact J_indexAddr rfl _ (.tmp 101) (.tmp 102) rfl (by rw [f6, f7]; go_simp <;> (intro h; omega)) (hK _ _ (hI.put0 8 rfl rfl (hI.st.mv _ (by decide) (Below.refl _ _))))
           refine .cons (fun V Ld a W hLi hpre hR hI KK hK => ?_) ?_
           ·
            have f8 := hI.ef hR hpre 8 rfl rfl rfl (by kernel_rfl)
            exact J_fieldAddr rfl _ (.tmp 103) 2 rfl (by rw [f8]; go_simp) (hK _ _ (hI.put0 9 rfl rfl (hI.st.mv _ (by decide) (Below.refl _ _))))
           refine .cons (fun V Ld a W hLi hpre hR hI KK hK => ?_) ?_
           ·
            have f9 := hI.ef hR hpre 9 rfl rfl rfl (by kernel_rfl)
            have c1 := (World.cell?_of_block (w := wr) (hI.st.b.block kb LKB.out (by simp))).trans C1.out
            have c2 := (World.cell?_of_block (w := wr) (hI.st.b.block kb LKB.out (by simp))).trans C2.out
            exact J_load rfl _ (.tmp 104) rfl (by rw [f9]; go_simp) (hK _ _ (hI.put0 10 rfl rfl (hI.st.mv _ (by decide) (Below.refl _ _))))
           refine .cons (fun V Ld a W hLi hpre hR hI KK hK => ?_) ?_
           ·
            have o11 := (hR.old 11 (by kernel_rfl)).trans (show _ = Value.int .i64 (mxI c.t (lastT O.ks)) from rfl)
            exact G_move rfl (.tmp 11) rfl o11 (hK _ _ (hI.put0 11 rfl rfl (hI.st.mv _ (by decide) (Below.refl _ _))))
           refine .cons (fun V Ld a W hLi hpre hR hI KK hK => ?_) ?_
           ·
            have f0 := hI.ef hR hpre 0 rfl rfl rfl (by kernel_rfl)
            have f5 := hI.ef hR hpre 5 rfl rfl rfl (by kernel_rfl)
            have f10 := hI.ef hR hpre 10 rfl rfl rfl (by kernel_rfl)
            have f11 := hI.ef hR hpre 11 rfl rfl rfl (by kernel_rfl)
            refine J_call rfl _ _ _ rfl enter_rgive (by simp only [List.map_toArray, List.map_cons, List.map_nil, f0, f5, f10, f11]) (HGV.out W hI.st.b) ?_
            rintro e w' ⟨u, x, rfl, ho, hb⟩
            exact ⟨_, rfl, hK _ _ (hI.put trivial 12 rfl trivial (hI.st.oc (F := lvF O c) (by decide) hLi hb ho))⟩
           refine .cons (fun V Ld a W hLi hpre hR hI KK hK => ?_) ?_
           ·
            have p12 := pm hpre 12 (by kernel_rfl)
            exact G_move rfl (.tmp 107) rfl (hR.ev 12 rfl rfl p12) (hK _ _ (hI.put0 13 rfl trivial (hI.st.om (by decide) hLi p12 rfl)))
           refine .cons (fun V Ld a W hLi hpre hR hI KK hK => ?_) ?_
           ·
            have p13 := pm hpre 13 (by kernel_rfl)
            obtain ⟨q12, q13⟩ := hI.st.em p13
            obtain ⟨u, x, eq, -⟩ := hI.st.val q12
            exact J_extract rfl (.tmp 94) 0 rfl ((hR.ev 13 rfl rfl p13).trans (q13.trans eq)) rfl (hK _ _ (hI.put0 14 rfl trivial (hI.st.oe (by decide) hLi p13 (fun u' x' e' => lvF_agg (lvF_inj (eq.symm.trans (q13.symm.trans e')))))))
           refine .cons (fun V Ld a W hLi hpre hR hI KK hK => ?_) ?_
           ·
            have p13 := pm hpre 13 (by kernel_rfl)
            obtain ⟨q12, q13⟩ := hI.st.em p13
            obtain ⟨u, x, eq, -⟩ := hI.st.val q12
            exact J_extract rfl (.tmp 94) 1 rfl ((hR.ev 13 rfl rfl p13).trans (q13.trans eq)) rfl (hK _ _ (hI.put0 15 rfl rfl (hI.st.mv _ (by decide) (Below.refl _ _))))
           refine .cons (fun V Ld a W hLi hpre hR hI KK hK => ?_) ?_
           ·
            have p13 := pm hpre 13 (by kernel_rfl)
            obtain ⟨q12, q13⟩ := hI.st.em p13
            obtain ⟨u, x, eq, -⟩ := hI.st.val q12
            exact J_extract rfl (.tmp 94) 2 rfl ((hR.ev 13 rfl rfl p13).trans (q13.trans eq)) rfl (hK _ _ (hI.put0 16 rfl rfl (hI.st.mv _ (by decide) (Below.refl _ _))))
           refine .cons (fun V Ld a W hLi hpre hR hI KK hK => ?_) ?_
           ·
            exact J_alloc rfl _ rfl (al_desk W) (hK _ _ (hI.put trivial 17 rfl trivial (hI.st.oa (by decide) hLi)))
           refine .cons (fun V Ld a W hLi hpre hR hI KK hK => ?_) ?_
           ·
            have p17 := pm hpre 17 (by kernel_rfl)
            have p14 := pm hpre 14 (by kernel_rfl)
            obtain ⟨w', hr, hn⟩ := hI.st.os (by decide) hLi p14 p17
            exact J_store rfl _ (.tmp 13) (.tmp 108) rfl (by rw [hR.ev 17 rfl rfl p17, hR.ev 14 rfl rfl p14]; exact hr) (hK _ _ (hI.put trivial 18 rfl trivial (hn _)))
           refine .cons (fun V Ld a W hLi hpre hR hI KK hK => ?_) ?_
           ·
            have f15 := hI.ef hR hpre 15 rfl rfl rfl (by kernel_rfl)
            exact G_assign rfl (.tmp 109) rfl f15 (hK _ _ (hI.put0 19 rfl rfl (hI.st.mv _ (by decide) (Below.refl _ _))))
           refine .cons (fun V Ld a W hLi hpre hR hI KK hK => ?_) trivial
           ·
            have f16 := hI.ef hR hpre 16 rfl rfl rfl (by kernel_rfl)
            exact G_assign rfl (.tmp 110) rfl f16 (hK _ _ (hI.put0 20 rfl rfl (hI.st.mv _ (by decide) (Below.refl _ _))))
          case refine_3 =>
           intro V Ld w15 hLd hI
           have e17 : V 19 = _ := hI.val 19 _ rfl (hLd 19 (by decide))
           have e18 : V 20 = _ := hI.val 20 _ rfl (hLd 20 (by decide))
           obtain ⟨xb, u15, x15, e15, hnb, hnl, -, hcell, hdo⟩ := hI.st.fin (hLd 18 (by decide))
           have hb15 := below_none hI.st.b
           clear hI hLd
           simp only [finL, putL, Act.put, Nat.reduceAdd]
           rw [e15, e17, e18]
           clear e15 e17 e18
           have HBW := Lib.hid hb15
           have hob : nb < wr.heap.size := HCR.out.lt
           have HN15 := Lib.hid (DeskN.of_lo (N := nb) hdo (by omega))
           have HNC := Lib.hid hcell
           have HO15 := Lib.hid (HCR.out.below hb15)
           obtain ⟨A15, ca15, B15, cb15, rfl, rfl⟩ := hdo.forms
           have HBD := Lib.hid (show Below w4.heap.size w4 w15 from HBR.out.trans (hb15.mono HBR.out.size))
           clear hcell hdo hb15
           generalize V 0 = v0, V 1 = v1
           generalize V 2 = v2, V 3 = v3
           generalize V 4 = v4, V 5 = v5
           generalize V 6 = v6, V 7 = v7
           generalize V 8 = v8, V 9 = v9
           generalize V 10 = v10, V 11 = v11
           generalize V 12 = v12, V 13 = v13
           generalize V 14 = v14, V 15 = v15, V 16 = v16
           clear V
           simp only [List.setIfInBounds_toArray, List.set_cons_succ, List.set_cons_zero]
           have HGE := Lib.hid (show giveE O c.r c.o (lvT O c) = giveE O c.r c.o (mxI c.t (lastT O.ks)) from rfl)
           have HGI := Lib.hid (show giveD O c.r c.o (lvT O c) = giveD O c.r c.o (mxI c.t (lastT O.ks)) from rfl)
           generalize giveE O c.r c.o (mxI c.t (lastT O.ks)) = er at *
           generalize giveI O c.r c.o (mxI c.t (lastT O.ks)) = ei at *
           by_cases he : er = 0
           ·
            have HN := Lib.hid (show LvI D id (k + 1) (giveD O c.r c.o (mxI c.t (lastT O.ks))) from by
             have := HI.out.step HS.out (k := k) (by rw [HUE.out]; exact hlt) (by rw [← HCD.out, HGE.out]; exact he)
             rw [← HCD.out, HGI.out] at this
             exact this)
            subst he
            have n0 := HNC.out.c0
            have n1' := HNC.out.c1
            have o0 := HO15.out.c0
            have o1 := HO15.out.c1
            have of0 := HO15.out.fz 0
            have of1 := HO15.out.fz 1
            have ol := HO15.out.lt
            go_wp2_with fail
            go_roundw
            case rel =>
             refine ⟨k + 1, _, _, _, by omega, by go_num, HN.out, below_set (below_set HBD.out ⟨nb, 0, none⟩ _ HNB.out) ⟨nb, 1, none⟩ _ HNB.out, (HO15.out.set0 _).set1 _, ((HN15.out.set 0 _).set 1 _).lower (by have := HG.out.d.lt; have := HG.out.z.lt; have := HBR.out.size; omega), ?_⟩
             exact (HUR.out.below HBW.out).keep (Kpt.trans (Kpt.set _ _ _ (fun b hb => hb)) (Kpt.set _ _ _ (fun b hb => hb)))
            case measure => simp [intOf]; omega
           ·
            have HE := Lib.hid (show leaveE D id = er ∧ leaveD D id = D from HI.out.bad HV.out (by have := HF.out; omega) (k := k) (by rw [HUE.out]; exact hlt) (by rw [← HCD.out, HGE.out]) he)
            have hez : (er == 0) = false := beq_eq_false_iff_ne.2 he
            have HGK := Lib.hid (HG.out.below HBD.out)
            have d0 := HGK.out.d.c0
            have d1 := HGK.out.d.c1
            have z0 := HGK.out.z.c0
            have z1 := HGK.out.z.c1
            have zf0 := HGK.out.z.fz 0
            have zf1 := HGK.out.z.fz 1
            have dl := HGK.out.d.lt
            have zl := HGK.out.z.lt
            clear he
            go_wp2_with fail
            refine bodyPost_ret (results_desk2 rfl _ _ (bx + 1) rfl ((HGK.out.z.set0 _).set1 _)) rfl ?_
            exact HGK.out.retL HBX.out.symm HGK.out.o (Nat.le_refl _) HE.out.1 HE.out.2
         ·
          have HT := Lib.hid (show c.t = mxI c.t (lastT O.ks) from mx_ge hmx)
          go_upto_region 21 with fail
          rw [HT.out]
          skip
          refine wp_region_J2 (GI (R := fun _ _ => True) [Pr.eq (.agg #[.slice uA O.cs.length uc, .slice (some ⟨pb, po, none⟩) O.ks.length xc]), Pr.eq (.slice (some ⟨kb, ko, none⟩) U.length cU), Pr.eq (.int .i64 (k : Int)), Pr.eq (.pointer (some ⟨kb, ko + k * 5, none⟩)), Pr.eq (.pointer (some ⟨kb, ko + k * 5 + 1, none⟩)), Pr.eq (.string c.r), Pr.eq (.slice (some ⟨kb, ko, none⟩) U.length cU), Pr.eq (.int .i64 (k : Int)), Pr.eq (.pointer (some ⟨kb, ko + k * 5, none⟩)), Pr.eq (.pointer (some ⟨kb, ko + k * 5 + 2, none⟩)), Pr.eq (.string c.o), Pr.eq (.int .i64 (mxI c.t (lastT O.ks))), Pr.any, Pr.any, Pr.any, Pr.eq (.int .i64 (giveI O c.r c.o (mxI c.t (lastT O.ks)))), Pr.eq (.int .i64 (giveE O c.r c.o (mxI c.t (lastT O.ks)))), Pr.any, Pr.any, Pr.eq (.int .i64 (giveI O c.r c.o (mxI c.t (lastT O.ks)))), Pr.eq (.int .i64 (giveE O c.r c.o (mxI c.t (lastT O.ks))))] (DvJ wr none 12 13 14 17 18 (lvF O c) (giveD O c.r c.o (mxI c.t (lastT O.ks))))) (by kernel_rfl) (by kernel_rfl) (by kernel_rfl) ?_ ?_ ?_
          case refine_1 => exact fun V => GI.start (DvJ.start (fun _ e => by cases e) V)
          case refine_2 =>
           refine .cons (fun V Ld a W hLi hpre hR hI KK hK => ?_) ?_
           ·
            have o7 := (hR.old 7 (by kernel_rfl)).trans (show _ = Value.pointer (some ⟨nb, 0, none⟩) from rfl)
            have hc := HCR.out.keep (hI.st.b.block _ HCR.out.lt (by simp))
            exact J_load rfl _ (.tmp 7) rfl (by rw [o7]; exact ld_desk hc) (hK _ _ (hI.put0 0 rfl rfl (hI.st.mv _ (by decide) (Below.refl _ _))))
           refine .cons (fun V Ld a W hLi hpre hR hI KK hK => ?_) ?_
           ·
            have o9 := (hR.old 9 (by kernel_rfl)).trans (show _ = Value.slice (some ⟨kb, ko, none⟩) U.length cU from rfl)
            exact G_move rfl (.tmp 9) rfl o9 (hK _ _ (hI.put0 1 rfl rfl (hI.st.mv _ (by decide) (Below.refl _ _))))
           refine .cons (fun V Ld a W hLi hpre hR hI KK hK => ?_) ?_
           ·
            have o10 := (hR.old 10 (by kernel_rfl)).trans (show _ = Value.int .i64 (k : Int) from rfl)
            exact G_move rfl (.tmp 10) rfl o10 (hK _ _ (hI.put0 2 rfl rfl (hI.st.mv _ (by decide) (Below.refl _ _))))
           refine .cons (fun V Ld a W hLi hpre hR hI KK hK => ?_) ?_
           ·
            have f1 := hI.ef hR hpre 1 rfl rfl rfl (by kernel_rfl)
            have f2 := hI.ef hR hpre 2 rfl rfl rfl (by kernel_rfl)
            exact J_indexAddr rfl _ (.tmp 96) (.tmp 97) rfl (by rw [f1, f2]; go_simp <;> (intro h; omega)) (hK _ _ (hI.put0 3 rfl rfl (hI.st.mv _ (by decide) (Below.refl _ _))))
           refine .cons (fun V Ld a W hLi hpre hR hI KK hK => ?_) ?_
           ·
            have f3 := hI.ef hR hpre 3 rfl rfl rfl (by kernel_rfl)
            exact J_fieldAddr rfl _ (.tmp 98) 1 rfl (by rw [f3]; go_simp) (hK _ _ (hI.put0 4 rfl rfl (hI.st.mv _ (by decide) (Below.refl _ _))))
           refine .cons (fun V Ld a W hLi hpre hR hI KK hK => ?_) ?_
           ·
            have f4 := hI.ef hR hpre 4 rfl rfl rfl (by kernel_rfl)
            have c1 := (World.cell?_of_block (w := wr) (hI.st.b.block kb LKB.out (by simp))).trans C1.out
            have c2 := (World.cell?_of_block (w := wr) (hI.st.b.block kb LKB.out (by simp))).trans C2.out
            exact J_load rfl _ (.tmp 99) rfl (by rw [f4]; go_simp) (hK _ _ (hI.put0 5 rfl rfl (hI.st.mv _ (by decide) (Below.refl _ _))))
           refine .cons (fun V Ld a W hLi hpre hR hI KK hK => ?_) ?_
           ·
            have o9 := (hR.old 9 (by kernel_rfl)).trans (show _ = Value.slice (some ⟨kb, ko, none⟩) U.length cU from rfl)
            exact G_move rfl (.tmp 9) rfl o9 (hK _ _ (hI.put0 6 rfl rfl (hI.st.mv _ (by decide) (Below.refl _ _))))
           refine .cons (fun V Ld a W hLi hpre hR hI KK hK => ?_) ?_
           ·
            have o10 := (hR.old 10 (by kernel_rfl)).trans (show _ = Value.int .i64 (k : Int) from rfl)
            exact G_move rfl (.tmp 10) rfl o10 (hK _ _ (hI.put0 7 rfl rfl (hI.st.mv _ (by decide) (Below.refl _ _))))
           refine .cons (fun V Ld a W hLi hpre hR hI KK hK => ?_) ?_
           ·
            have f6 := hI.ef hR hpre 6 rfl rfl rfl (by kernel_rfl)
            have f7 := hI.ef hR hpre 7 rfl rfl rfl (by kernel_rfl)
            exact J_indexAddr rfl _ (.tmp 101) (.tmp 102) rfl (by rw [f6, f7]; go_simp <;> (intro h; omega)) (hK _ _ (hI.put0 8 rfl rfl (hI.st.mv _ (by decide) (Below.refl _ _))))
           refine .cons (fun V Ld a W hLi hpre hR hI KK hK => ?_) ?_
           ·
            have f8 := hI.ef hR hpre 8 rfl rfl rfl (by kernel_rfl)
            exact J_fieldAddr rfl _ (.tmp 103) 2 rfl (by rw [f8]; go_simp) (hK _ _ (hI.put0 9 rfl rfl (hI.st.mv _ (by decide) (Below.refl _ _))))
           refine .cons (fun V Ld a W hLi hpre hR hI KK hK => ?_) ?_
           ·
            have f9 := hI.ef hR hpre 9 rfl rfl rfl (by kernel_rfl)
            have c1 := (World.cell?_of_block (w := wr) (hI.st.b.block kb LKB.out (by simp))).trans C1.out
            have c2 := (World.cell?_of_block (w := wr) (hI.st.b.block kb LKB.out (by simp))).trans C2.out
            exact J_load rfl _ (.tmp 104) rfl (by rw [f9]; go_simp) (hK _ _ (hI.put0 10 rfl rfl (hI.st.mv _ (by decide) (Below.refl _ _))))
           refine .cons (fun V Ld a W hLi hpre hR hI KK hK => ?_) ?_
           ·
            have o11 := (hR.old 11 (by kernel_rfl)).trans (show _ = Value.int .i64 (mxI c.t (lastT O.ks)) from rfl)
            exact G_move rfl (.tmp 11) rfl o11 (hK _ _ (hI.put0 11 rfl rfl (hI.st.mv _ (by decide) (Below.refl _ _))))
           refine .cons (fun V Ld a W hLi hpre hR hI KK hK => ?_) ?_
           ·
            have f0 := hI.ef hR hpre 0 rfl rfl rfl (by kernel_rfl)
            have f5 := hI.ef hR hpre 5 rfl rfl rfl (by kernel_rfl)
            have f10 := hI.ef hR hpre 10 rfl rfl rfl (by kernel_rfl)
            have f11 := hI.ef hR hpre 11 rfl rfl rfl (by kernel_rfl)
            refine J_call rfl _ _ _ rfl enter_rgive (by simp only [List.map_toArray, List.map_cons, List.map_nil, f0, f5, f10, f11]) (HGV.out W hI.st.b) ?_
            rintro e w' ⟨u, x, rfl, ho, hb⟩
            exact ⟨_, rfl, hK _ _ (hI.put trivial 12 rfl trivial (hI.st.oc (F := lvF O c) (by decide) hLi hb ho))⟩
           refine .cons (fun V Ld a W hLi hpre hR hI KK hK => ?_) ?_
           ·
            have p12 := pm hpre 12 (by kernel_rfl)
            exact G_move rfl (.tmp 107) rfl (hR.ev 12 rfl rfl p12) (hK _ _ (hI.put0 13 rfl trivial (hI.st.om (by decide) hLi p12 rfl)))
           refine .cons (fun V Ld a W hLi hpre hR hI KK hK => ?_) ?_
           ·
            have p13 := pm hpre 13 (by kernel_rfl)
            obtain ⟨q12, q13⟩ := hI.st.em p13
            obtain ⟨u, x, eq, -⟩ := hI.st.val q12
            exact J_extract rfl (.tmp 94) 0 rfl ((hR.ev 13 rfl rfl p13).trans (q13.trans eq)) rfl (hK _ _ (hI.put0 14 rfl trivial (hI.st.oe (by decide) hLi p13 (fun u' x' e' => lvF_agg (lvF_inj (eq.symm.trans (q13.symm.trans e')))))))
           refine .cons (fun V Ld a W hLi hpre hR hI KK hK => ?_) ?_
           ·
            have p13 := pm hpre 13 (by kernel_rfl)
            obtain ⟨q12, q13⟩ := hI.st.em p13
            obtain ⟨u, x, eq, -⟩ := hI.st.val q12
            exact J_extract rfl (.tmp 94) 1 rfl ((hR.ev 13 rfl rfl p13).trans (q13.trans eq)) rfl (hK _ _ (hI.put0 15 rfl rfl (hI.st.mv _ (by decide) (Below.refl _ _))))
           refine .cons (fun V Ld a W hLi hpre hR hI KK hK => ?_) ?_
           ·
            have p13 := pm hpre 13 (by kernel_rfl)
            obtain ⟨q12, q13⟩ := hI.st.em p13
            obtain ⟨u, x, eq, -⟩ := hI.st.val q12
            exact J_extract rfl (.tmp 94) 2 rfl ((hR.ev 13 rfl rfl p13).trans (q13.trans eq)) rfl (hK _ _ (hI.put0 16 rfl rfl (hI.st.mv _ (by decide) (Below.refl _ _))))
           refine .cons (fun V Ld a W hLi hpre hR hI KK hK => ?_) ?_
           ·
            exact J_alloc rfl _ rfl (al_desk W) (hK _ _ (hI.put trivial 17 rfl trivial (hI.st.oa (by decide) hLi)))
           refine .cons (fun V Ld a W hLi hpre hR hI KK hK => ?_) ?_
           ·
            have p17 := pm hpre 17 (by kernel_rfl)
            have p14 := pm hpre 14 (by kernel_rfl)
            obtain ⟨w', hr, hn⟩ := hI.st.os (by decide) hLi p14 p17
            exact J_store rfl _ (.tmp 13) (.tmp 108) rfl (by rw [hR.ev 17 rfl rfl p17, hR.ev 14 rfl rfl p14]; exact hr) (hK _ _ (hI.put trivial 18 rfl trivial (hn _)))
           refine .cons (fun V Ld a W hLi hpre hR hI KK hK => ?_) ?_
           ·
            have f15 := hI.ef hR hpre 15 rfl rfl rfl (by kernel_rfl)
            exact G_assign rfl (.tmp 109) rfl f15 (hK _ _ (hI.put0 19 rfl rfl (hI.st.mv _ (by decide) (Below.refl _ _))))
           refine .cons (fun V Ld a W hLi hpre hR hI KK hK => ?_) trivial
           ·
            have f16 := hI.ef hR hpre 16 rfl rfl rfl (by kernel_rfl)
            exact G_assign rfl (.tmp 110) rfl f16 (hK _ _ (hI.put0 20 rfl rfl (hI.st.mv _ (by decide) (Below.refl _ _))))
          case refine_3 =>
           intro V Ld w15 hLd hI
           have e17 : V 19 = _ := hI.val 19 _ rfl (hLd 19 (by decide))
           have e18 : V 20 = _ := hI.val 20 _ rfl (hLd 20 (by decide))
           obtain ⟨xb, u15, x15, e15, hnb, hnl, -, hcell, hdo⟩ := hI.st.fin (hLd 18 (by decide))
           have hb15 := below_none hI.st.b
           clear hI hLd
           simp only [finL, putL, Act.put, Nat.reduceAdd]
           rw [e15, e17, e18]
           clear e15 e17 e18
           have HBW := Lib.hid hb15
           have hob : nb < wr.heap.size := HCR.out.lt
           have HN15 := Lib.hid (DeskN.of_lo (N := nb) hdo (by omega))
           have HNC := Lib.hid hcell
           have HO15 := Lib.hid (HCR.out.below hb15)
           obtain ⟨A15, ca15, B15, cb15, rfl, rfl⟩ := hdo.forms
           have HBD := Lib.hid (show Below w4.heap.size w4 w15 from HBR.out.trans (hb15.mono HBR.out.size))
           clear hcell hdo hb15
           generalize V 0 = v0, V 1 = v1
           generalize V 2 = v2, V 3 = v3
           generalize V 4 = v4, V 5 = v5
           generalize V 6 = v6, V 7 = v7
           generalize V 8 = v8, V 9 = v9
           generalize V 10 = v10, V 11 = v11
           generalize V 12 = v12, V 13 = v13
           generalize V 14 = v14, V 15 = v15, V 16 = v16
           clear V
           simp only [List.setIfInBounds_toArray, List.set_cons_succ, List.set_cons_zero]
           have HGE := Lib.hid (show giveE O c.r c.o (lvT O c) = giveE O c.r c.o (mxI c.t (lastT O.ks)) from rfl)
           have HGI := Lib.hid (show giveD O c.r c.o (lvT O c) = giveD O c.r c.o (mxI c.t (lastT O.ks)) from rfl)
           generalize giveE O c.r c.o (mxI c.t (lastT O.ks)) = er at *
           generalize giveI O c.r c.o (mxI c.t (lastT O.ks)) = ei at *
           by_cases he : er = 0
           ·
            have HN := Lib.hid (show LvI D id (k + 1) (giveD O c.r c.o (mxI c.t (lastT O.ks))) from by
             have := HI.out.step HS.out (k := k) (by rw [HUE.out]; exact hlt) (by rw [← HCD.out, HGE.out]; exact he)
             rw [← HCD.out, HGI.out] at this
             exact this)
            subst he
            have n0 := HNC.out.c0
            have n1' := HNC.out.c1
            have o0 := HO15.out.c0
            have o1 := HO15.out.c1
            have of0 := HO15.out.fz 0
            have of1 := HO15.out.fz 1
            have ol := HO15.out.lt
            go_wp2_with fail
            go_roundw
            case rel =>
             refine ⟨k + 1, _, _, _, by omega, by go_num, HN.out, below_set (below_set HBD.out ⟨nb, 0, none⟩ _ HNB.out) ⟨nb, 1, none⟩ _ HNB.out, (HO15.out.set0 _).set1 _, ((HN15.out.set 0 _).set 1 _).lower (by have := HG.out.d.lt; have := HG.out.z.lt; have := HBR.out.size; omega), ?_⟩
             exact (HUR.out.below HBW.out).keep (Kpt.trans (Kpt.set _ _ _ (fun b hb => hb)) (Kpt.set _ _ _ (fun b hb => hb)))
            case measure => simp [intOf]; omega
           ·
            have HE := Lib.hid (show leaveE D id = er ∧ leaveD D id = D from HI.out.bad HV.out (by have := HF.out; omega) (k := k) (by rw [HUE.out]; exact hlt) (by rw [← HCD.out, HGE.out]) he)
            have hez : (er == 0) = false := beq_eq_false_iff_ne.2 he
            have HGK := Lib.hid (HG.out.below HBD.out)
            have d0 := HGK.out.d.c0
            have d1 := HGK.out.d.c1
            have z0 := HGK.out.z.c0
            have z1 := HGK.out.z.c1
            have zf0 := HGK.out.z.fz 0
            have zf1 := HGK.out.z.fz 1
            have dl := HGK.out.d.lt
            have zl := HGK.out.z.lt
            clear he
            go_wp2_with fail
            refine bodyPost_ret (results_desk2 rfl _ _ (bx + 1) rfl ((HGK.out.z.set0 _).set1 _)) rfl ?_
            exact HGK.out.retL HBX.out.symm HGK.out.o (Nat.le_refl _) HE.out.1 HE.out.2
       ·
        have HE := Lib.hid (show leaveE D id = 0 ∧ leaveD D id = O from HI.out.done HV.out (by have := HF.out; omega) (by rw [HUE.out]; omega))
        have hkl2 : ¬ (k : Int) < (U.length : Int) := by omega
        have HGK := Lib.hid (HG.out.below HBR.out)
        have o0 := HCR.out.c0
        have o1 := HCR.out.c1
        have ol := HCR.out.lt
        have z0 := HGK.out.z.c0
        have z1 := HGK.out.z.c1
        have zf0 := HGK.out.z.fz 0
        have zf1 := HGK.out.z.fz 1
        have zl := HGK.out.z.lt
        go_wp2_with fail
        refine bodyPost_ret (results_desk2 rfl _ _ (bx + 1) rfl ((HGK.out.z.set0 _).set1 _)) rfl ?_
        exact HGK.out.retL HBX.out.symm HNR.out.o (Nat.le_refl _) HE.out.1 HE.out.2
 ·
  have hv : chkE D = 1 := by unfold chkE; rw [if_neg hc]
  rw [hv]
  have HE := Lib.hid (show leaveE D id = 1 ∧ leaveD D id = D from by
   have h1 : leaveE D id = 1 := by unfold leaveE; rw [hv]; rfl
   exact ⟨h1, by unfold leaveD; rw [h1]; rfl⟩)
  clear hc hv
  go_wp2_with fail
  refine bodyPost_ret (results_desk2 rfl _ _ (bx + 1) rfl ((HG.out.z.set0 _).set1 _)) rfl ?_
  exact HG.out.retL HBX.out.symm HG.out.o (Nat.le_refl _) HE.out.1 HE.out.2
end Go.Proofs.Ytjckpammcgeloaa
namespace Go.Proofs.Ytjckpammcgeloaa
open Go.RowKit

theorem ld_case5 {w W : World} {b o : Nat} {x : CaseD} (hb : Below w.heap.size w W) (hl : b < w.heap.size) (h0 : w.cell? ⟨b, o, none⟩ = some (.int .i64 x.c)) (h1 : w.cell? ⟨b, o + 1, none⟩ = some (.string x.r)) (h2 : w.cell? ⟨b, o + 2, none⟩ = some (.string x.o)) (h3 : w.cell? ⟨b, o + 3, none⟩ = some (.int .i64 x.t)) (h4 : w.cell? ⟨b, o + 4, none⟩ = some (.bool x.s)) : (Instr.loadAt 37 (.pointer (some ⟨b, o, none⟩))).run Try.prog W = .ok (caseV x) W := by
 have e0 := (hb.cell hl).trans h0
 have e1 := (hb.cell hl).trans h1
 have e2 := (hb.cell hl).trans h2
 have e3 := (hb.cell hl).trans h3
 have e4 := (hb.cell hl).trans h4
 go_simp
theorem nq_case (o1 o2 : Operand) (x : CaseD) (w : World) : (do Go.eqGuard .neq 37 o1 o2 (caseV x) (caseV x); Go.binOp .neq 37 (caseV x) (caseV x) : Sem Value).run Try.prog w = .ok (.bool false) w := by
 go_simp
theorem eq_case (o1 o2 : Operand) (x : CaseD) (w : World) : (do Go.eqGuard .eql 37 o1 o2 (caseV x) (caseV x); Go.binOp .eql 37 (caseV x) (caseV x) : Sem Value).run Try.prog w = .ok (.bool true) w := by
 go_simp
set_option maxRecDepth 100000 in
set_option maxHeartbeats 2000000 in
theorem equalK_any {P P' : Nat → Prop} (A A' : Option Addr) (K : List CaseD) (c c' : Nat) (w : World) (hK : ElP EK P w A c K) (hK' : ElP EK P' w A' c' K) (hl : K.length ≤ 100000) :
  Calls Try.prog 70 #[.slice A K.length c, .slice A' K.length c'] w (RetB (.bool true) w) := by
 have HK := Lib.hid hK
 have HK2 := Lib.hid hK'
 clear hK hK'
 go_enter Try.func70, Try.ntmps70
 go_wp2_with fail
 go_loopw [13] (fun i wr => ∃ k : Nat, k ≤ K.length ∧ i = .int .i64 k ∧ Below w.heap.size w wr) (fun i _ => K.length - (intOf i).toNat)
 case atStart => exact ⟨0, Nat.zero_le _, rfl, Below.refl _ _⟩
 case round =>
  obtain ⟨k, hk, rfl, hbr⟩ := hrel
  have HBR := Lib.hid hbr
  by_cases hlt : k < K.length
  ·
   obtain ⟨b, off, rfl, hbl, -, c0, c1, c2, c3, c4⟩ := (HK.out.below hbr).case hlt
   obtain ⟨b', off', rfl, hbl', -, d0, d1, d2, d3, d4⟩ := (HK2.out.below hbr).case hlt
   have hk0 : (0 : Int) ≤ (k : Int) := by omega
   have hkl : (k : Int) < (K.length : Int) := by omega
   have ld1 := fun W (hb : Below wr.heap.size wr W) => ld_case5 (x := kAt K k) hb hbl c0 c1 c2 c3 c4
   have ld2 := fun W (hb : Below wr.heap.size wr W) => ld_case5 (x := kAt K k) hb hbl' d0 d1 d2 d3 d4
   have LD1 := Lib.hid ld1
   have LD2 := Lib.hid ld2
   clear hbr ld1 ld2 c0 c1 c2 c3 c4 d0 d1 d2 d3 d4
   generalize kAt K k = x at *
   go_upto_region 6 with fail
   refine wp_region_J2 (GI (R := Bl) [Pr.eq (.slice (some ⟨b, off, none⟩) K.length c), Pr.eq (.int .i64 ((k : Int))), Pr.eq (.pointer (some ⟨b, off + k * 5, none⟩)), Pr.eq (caseV x), Pr.eq (.slice (some ⟨b', off', none⟩) K.length c'), Pr.eq (.int .i64 ((k : Int))), Pr.eq (.pointer (some ⟨b', off' + k * 5, none⟩)), Pr.eq (caseV x), Pr.eq (.bool false)] (GrS wr)) (by kernel_rfl) (by kernel_rfl) (by kernel_rfl) ?_ ?_ ?_
   case refine_1 => exact fun V => GI.start (GrS.start _ _ _)
   case refine_2 =>
    refine .cons (fun V Ld a W hLi hpre hR hI KK hK => ?_) ?_
    ·
     have o0 := (hR.old 0 (by kernel_rfl)).trans (show _ = Value.slice (some ⟨b, off, none⟩) K.length c from rfl)
     exact G_move rfl (.tmp 0) rfl o0 (hI.u0 hK rfl)
    refine .cons (fun V Ld a W hLi hpre hR hI KK hK => ?_) ?_
    ·
     have o5 := (hR.old 5 (by kernel_rfl)).trans (show _ = Value.int .i64 ((k : Int)) from rfl)
     exact G_move rfl (.tmp 5) rfl o5 (hI.u0 hK rfl)
    refine .cons (fun V Ld a W hLi hpre hR hI KK hK => ?_) ?_
    ·
     have f0 := hI.ef hR hpre 0 rfl rfl rfl (by kernel_rfl)
     have f1 := hI.ef hR hpre 1 rfl rfl rfl (by kernel_rfl)
     exact J_indexAddr rfl _ (.tmp 16) (.tmp 17) rfl (by rw [f0, f1]; go_simp <;> (intro h; omega)) (hI.u0 hK rfl)
    refine .cons (fun V Ld a W hLi hpre hR hI KK hK => ?_) ?_
    ·
     have f2 := hI.ef hR hpre 2 rfl rfl rfl (by kernel_rfl)
     exact J_load rfl _ (.tmp 18) rfl (by rw [f2]; exact LD1.out W hI.st.bl) (hI.u0 hK rfl)
    refine .cons (fun V Ld a W hLi hpre hR hI KK hK => ?_) ?_
    ·
     have o1 := (hR.old 1 (by kernel_rfl)).trans (show _ = Value.slice (some ⟨b', off', none⟩) K.length c' from rfl)
     exact G_move rfl (.tmp 1) rfl o1 (hI.u0 hK rfl)
    refine .cons (fun V Ld a W hLi hpre hR hI KK hK => ?_) ?_
    ·
     have o5 := (hR.old 5 (by kernel_rfl)).trans (show _ = Value.int .i64 ((k : Int)) from rfl)
     exact G_move rfl (.tmp 5) rfl o5 (hI.u0 hK rfl)
    refine .cons (fun V Ld a W hLi hpre hR hI KK hK => ?_) ?_
    ·
     have f4 := hI.ef hR hpre 4 rfl rfl rfl (by kernel_rfl)
     have f5 := hI.ef hR hpre 5 rfl rfl rfl (by kernel_rfl)
     exact J_indexAddr rfl _ (.tmp 20) (.tmp 21) rfl (by rw [f4, f5]; go_simp <;> (intro h; omega)) (hI.u0 hK rfl)
    refine .cons (fun V Ld a W hLi hpre hR hI KK hK => ?_) ?_
    ·
     have f6 := hI.ef hR hpre 6 rfl rfl rfl (by kernel_rfl)
     exact J_load rfl _ (.tmp 22) rfl (by rw [f6]; exact LD2.out W hI.st.bl) (hI.u0 hK rfl)
    refine .cons (fun V Ld a W hLi hpre hR hI KK hK => ?_) trivial
    ·
     have f3 := hI.ef hR hpre 3 rfl rfl rfl (by kernel_rfl)
     have f7 := hI.ef hR hpre 7 rfl rfl rfl (by kernel_rfl)
     exact J_binOp rfl .neq _ (.tmp 19) (.tmp 23) _ rfl (by rw [f3, f7]; exact nq_case _ _ x W) (hI.u0 hK rfl)
   case refine_3 =>
    intro V Ld w9 hLd hI
    have e9 : V 8 = .bool false := hI.val 8 _ rfl (hLd 8 (by decide))
    have hb9 := hI.st.bl
    clear hI hLd
    simp only [finL, putL, Act.put, Nat.reduceAdd]
    rw [e9]
    clear e9
    generalize V 0 = v0, V 1 = v1
    generalize V 2 = v2, V 3 = v3
    generalize V 4 = v4, V 5 = v5
    generalize V 6 = v6, V 7 = v7
    clear V
    simp only [List.setIfInBounds_toArray, List.set_cons_succ, List.set_cons_zero]
    have HBF := Lib.hid (below_trans HBR.out hb9)
    clear hb9
    go_wp2_with fail
    go_roundw
    case rel => exact ⟨k + 1, by omega, by go_num, HBF.out⟩
    case measure => simp [intOf]; omega
  ·
   have hkl : ¬ (k : Int) < (K.length : Int) := by omega
   go_wp2_with fail
   go_ret
   exact RetB.bool rfl HBR.out
set_option maxRecDepth 100000 in
set_option maxHeartbeats 2000000 in
theorem sameCases_any {P P' : Nat → Prop} (A A' : Option Addr) (K : List CaseD) (c c' : Nat) (w : World) (hK : ElP EK P w A c K) (hK' : ElP EK P' w A' c' K) (hl : K.length ≤ 100000) :
  Calls Try.prog 40 #[.slice A K.length c, .slice A' K.length c'] w (RetB (.bool true) w) := by
 have HK := Lib.hid hK
 have HK2 := Lib.hid hK'
 clear hK hK'
 go_enter Try.func40, Try.ntmps40
 go_wp2_with fail
 go_loopw [5] (fun i wr => ∃ k : Nat, k ≤ K.length ∧ i = .int .i64 k ∧ Below w.heap.size w wr) (fun i _ => K.length - (intOf i).toNat)
 case atStart => exact ⟨0, Nat.zero_le _, rfl, Below.refl _ _⟩
 case round =>
  obtain ⟨k, hk, rfl, hbr⟩ := hrel
  have HBR := Lib.hid hbr
  by_cases hlt : k < K.length
  ·
   obtain ⟨b, off, rfl, hbl, -, c0, c1, c2, c3, c4⟩ := (HK.out.below hbr).case hlt
   obtain ⟨b', off', rfl, hbl', -, d0, d1, d2, d3, d4⟩ := (HK2.out.below hbr).case hlt
   have hk0 : (0 : Int) ≤ (k : Int) := by omega
   have hkl : (k : Int) < (K.length : Int) := by omega
   have ld1 := fun W (hb : Below wr.heap.size wr W) => ld_case5 (x := kAt K k) hb hbl c0 c1 c2 c3 c4
   have ld2 := fun W (hb : Below wr.heap.size wr W) => ld_case5 (x := kAt K k) hb hbl' d0 d1 d2 d3 d4
   have LD1 := Lib.hid ld1
   have LD2 := Lib.hid ld2
   clear hbr ld1 ld2 c0 c1 c2 c3 c4 d0 d1 d2 d3 d4
   generalize kAt K k = x at *
   go_upto_region 6 with fail
   refine wp_region_J2 (GI (R := Bl) [Pr.eq (.slice (some ⟨b, off, none⟩) K.length c), Pr.eq (.int .i64 ((k : Int))), Pr.eq (.pointer (some ⟨b, off + k * 5, none⟩)), Pr.eq (caseV x), Pr.eq (.slice (some ⟨b', off', none⟩) K.length c'), Pr.eq (.int .i64 ((k : Int))), Pr.eq (.pointer (some ⟨b', off' + k * 5, none⟩)), Pr.eq (caseV x), Pr.eq (.bool false)] (GrS wr)) (by kernel_rfl) (by kernel_rfl) (by kernel_rfl) ?_ ?_ ?_
   case refine_1 => exact fun V => GI.start (GrS.start _ _ _)
   case refine_2 =>
    refine .cons (fun V Ld a W hLi hpre hR hI KK hK => ?_) ?_
    ·
     have o0 := (hR.old 0 (by kernel_rfl)).trans (show _ = Value.slice (some ⟨b, off, none⟩) K.length c from rfl)
     exact G_move rfl (.tmp 0) rfl o0 (hI.u0 hK rfl)
    refine .cons (fun V Ld a W hLi hpre hR hI KK hK => ?_) ?_
    ·
     have o5 := (hR.old 5 (by kernel_rfl)).trans (show _ = Value.int .i64 ((k : Int)) from rfl)
     exact G_move rfl (.tmp 5) rfl o5 (hI.u0 hK rfl)
    refine .cons (fun V Ld a W hLi hpre hR hI KK hK => ?_) ?_
    ·
     have f0 := hI.ef hR hpre 0 rfl rfl rfl (by kernel_rfl)
     have f1 := hI.ef hR hpre 1 rfl rfl rfl (by kernel_rfl)
     exact J_indexAddr rfl _ (.tmp 17) (.tmp 18) rfl (by rw [f0, f1]; go_simp <;> (intro h; omega)) (hI.u0 hK rfl)
    refine .cons (fun V Ld a W hLi hpre hR hI KK hK => ?_) ?_
    ·
     have f2 := hI.ef hR hpre 2 rfl rfl rfl (by kernel_rfl)
     exact J_load rfl _ (.tmp 19) rfl (by rw [f2]; exact LD1.out W hI.st.bl) (hI.u0 hK rfl)
    refine .cons (fun V Ld a W hLi hpre hR hI KK hK => ?_) ?_
    ·
     have o1 := (hR.old 1 (by kernel_rfl)).trans (show _ = Value.slice (some ⟨b', off', none⟩) K.length c' from rfl)
     exact G_move rfl (.tmp 1) rfl o1 (hI.u0 hK rfl)
    refine .cons (fun V Ld a W hLi hpre hR hI KK hK => ?_) ?_
    ·
     have o5 := (hR.old 5 (by kernel_rfl)).trans (show _ = Value.int .i64 ((k : Int)) from rfl)
     exact G_move rfl (.tmp 5) rfl o5 (hI.u0 hK rfl)
    refine .cons (fun V Ld a W hLi hpre hR hI KK hK => ?_) ?_
    ·
     have f4 := hI.ef hR hpre 4 rfl rfl rfl (by kernel_rfl)
     have f5 := hI.ef hR hpre 5 rfl rfl rfl (by kernel_rfl)
     exact J_indexAddr rfl _ (.tmp 21) (.tmp 22) rfl (by rw [f4, f5]; go_simp <;> (intro h; omega)) (hI.u0 hK rfl)
    refine .cons (fun V Ld a W hLi hpre hR hI KK hK => ?_) ?_
    ·
     have f6 := hI.ef hR hpre 6 rfl rfl rfl (by kernel_rfl)
     exact J_load rfl _ (.tmp 23) rfl (by rw [f6]; exact LD2.out W hI.st.bl) (hI.u0 hK rfl)
    refine .cons (fun V Ld a W hLi hpre hR hI KK hK => ?_) trivial
    ·
     have f3 := hI.ef hR hpre 3 rfl rfl rfl (by kernel_rfl)
     have f7 := hI.ef hR hpre 7 rfl rfl rfl (by kernel_rfl)
     exact J_binOp rfl .neq _ (.tmp 20) (.tmp 24) _ rfl (by rw [f3, f7]; exact nq_case _ _ x W) (hI.u0 hK rfl)
   case refine_3 =>
    intro V Ld w9 hLd hI
    have e9 : V 8 = .bool false := hI.val 8 _ rfl (hLd 8 (by decide))
    have hb9 := hI.st.bl
    clear hI hLd
    simp only [finL, putL, Act.put, Nat.reduceAdd]
    rw [e9]
    clear e9
    generalize V 0 = v0, V 1 = v1
    generalize V 2 = v2, V 3 = v3
    generalize V 4 = v4, V 5 = v5
    generalize V 6 = v6, V 7 = v7
    clear V
    simp only [List.setIfInBounds_toArray, List.set_cons_succ, List.set_cons_zero]
    have HBF := Lib.hid (below_trans HBR.out hb9)
    clear hb9
    go_wp2_with fail
    go_roundw
    case rel => exact ⟨k + 1, by omega, by go_num, HBF.out⟩
    case measure => simp [intOf]; omega
  ·
   have hkl : ¬ (k : Int) < (K.length : Int) := by omega
   go_wp2_with fail
   go_ret
   exact RetB.bool rfl HBR.out
end Go.Proofs.Ytjckpammcgeloaa
