/-
  Gifts: what a holder who lies brings, by the program.
  Gifts: the two regions of the document's Spoil.
  Conditions: those that each theorem names.
-/
import Derived.Test.YtjckpammcgeloaaDoorM6
set_option linter.unusedVariables false
set_option linter.unusedSimpArgs false
namespace Go.Proofs.YtjckpammcgeloaaDoor
open Go.RowKit

def zeroG : GiftD := ⟨0, [], [], 0, []⟩
def spE (p n h lh lk : Int) (G : GiftD) : Int := if chkE p n h lh lk = 0 then (if G.h = lh then 0 else 41) else 1
def spB (p n h lh lk : Int) (G : GiftD) : Bool := decide (spE p n h lh lk G = 0 ∧ lk ≠ 4)
def spX (p : Nat) (lk lb : Int) (G O X : GiftD) : GiftD :=
  if lk = 1 then valG p lb G else if lk = 2 then mapG (shS p (moreI p lb)) G else if lk = 3 then ⟨G.h, O.bx, O.wh, G.kh, G.kv⟩ else
    if lk = 5 then ⟨G.h, X.bx.map (nameS G.h), X.wh.map (nameS G.h), G.h, X.kv⟩ else G
def spG (p : Nat) (n h lh lk lb : Int) (G O X : GiftD) : GiftD := if spB p n h lh lk G = true then spX p lk lb G O X else zeroG
section
variable {p : Nat} {n h lh lk lb : Int} {G O X : GiftD}
theorem sp_chk (H : ¬ chkE p n h lh lk = 0) : spE p n h lh lk G = 1 ∧ spB p n h lh lk G = false ∧ spG p n h lh lk lb G O X = zeroG := by
  have h1 : spE p n h lh lk G = 1 := by unfold spE; rw [if_neg H]
  have h2 : spB p n h lh lk G = false := by unfold spB; rw [h1]; rfl
  exact ⟨h1, h2, by unfold spG; rw [h2]; rfl⟩
theorem sp_h (H : chkE p n h lh lk = 0) (H2 : ¬ G.h = lh) : spE p n h lh lk G = 41 ∧ spB p n h lh lk G = false ∧ spG p n h lh lk lb G O X = zeroG := by
  have h1 : spE p n h lh lk G = 41 := by unfold spE; rw [if_pos H, if_neg H2]
  have h2 : spB p n h lh lk G = false := by unfold spB; rw [h1]; rfl
  exact ⟨h1, h2, by unfold spG; rw [h2]; rfl⟩
theorem sp_4 (H : chkE p n h lh lk = 0) (H2 : G.h = lh) (H3 : lk = 4) : spE p n h lh lk G = 0 ∧ spB p n h lh lk G = false ∧ spG p n h lh lk lb G O X = zeroG := by
  have h1 : spE p n h lh lk G = 0 := by unfold spE; rw [if_pos H, if_pos H2]
  have h2 : spB p n h lh lk G = false := by unfold spB; exact decide_eq_false (fun h => h.2 H3)
  exact ⟨h1, h2, by unfold spG; rw [h2]; rfl⟩
theorem sp_ok (H : chkE p n h lh lk = 0) (H2 : G.h = lh) (H3 : lk ≠ 4) : spE p n h lh lk G = 0 ∧ spB p n h lh lk G = true ∧ spG p n h lh lk lb G O X = spX p lk lb G O X := by
  have h1 : spE p n h lh lk G = 0 := by unfold spE; rw [if_pos H, if_pos H2]
  have h2 : spB p n h lh lk G = true := by unfold spB; exact decide_eq_true ⟨h1, H3⟩
  exact ⟨h1, h2, by unfold spG; rw [if_pos h2]⟩
end
/-- What Spoil returns. -/
def SpoilP (G : GiftD) (ok : Bool) (er : Int) (w : World) (e : Ending) (w' : World) : Prop :=
  ∃ v, e = .returned (.tuple #[v, .bool ok, .int .i64 er]) ∧ GiftR (fun b => w.heap.size ≤ b) w' v G ∧ Below w.heap.size w w'
theorem zero_gift (P : Nat → Prop) (w : World) : GiftR P w (giftV 0 (.slice none 0 0) (.slice none 0 0) 0 (.slice none 0 0)) zeroG :=
  ⟨none, 0, none, 0, none, 0, rfl, ShP.nil _ _, ShP.nil _ _, IntsP.nil _ _⟩
theorem spoil_end {w W : World} {G : GiftD} {v : Value} {ok : Bool} {er : Int} (r : Nat) (hr : r = w.heap.size + 5) (hb : Below w.heap.size w W) (hG : GiftR (fun b => w.heap.size + 6 ≤ b) W v G) (x kh : Int) (b1 b2 b3 : Value) :
    SpoilP G ok er w (.returned (.tuple #[v, .bool ok, .int .i64 er])) (((((W.setCell ⟨r, 0, none⟩ (.int .i64 x)).setCell ⟨r, 1, none⟩ b1).setCell ⟨r, 2, none⟩ b2).setCell ⟨r, 3, none⟩ (.int .i64 kh)).setCell ⟨r, 4, none⟩ b3) := by
  have hs := sav_fill W r x kh b1 b2 b3
  refine ⟨v, rfl, (hG.keep (hs.kept (fun b hb e => by omega))).mono (fun b _ hb => by omega), (hb.trans (hs.below w.heap.size hb.size (fun k _ e => by omega)))⟩
theorem each_read {X : Nat → Prop} {base : Nat} {bv wv kv : Value} {G : GiftD} {w W : World} {e : Ending} (h : EachP X base bv wv kv G w e W) : GiftR (fun b => base ≤ b) W (giftV G.h bv wv G.kh kv) G := by
  obtain ⟨Hb, Hw, -, h2, -⟩ := h; exact h2.read
theorem spoil1_fn (gb base : Nat) (h : Int) (w : World) (hc : w.cell? ⟨gb, 0, none⟩ = some (.int .i64 h)) : ShFn 41 #[.pointer (some ⟨gb, 0, none⟩)] (fun b => b = gb) w base 1048576 (nameS h) := by
  intro W g o v x L hs h0 h1 hf hr hl ng hE hg
  have e1 := (hs.cell (o := 0) (cellB_lt hc) (fun h => h rfl)).trans hc
  refine (spoil1_any g o gb h x W e1 h0 hf).mono ?_
  rintro e w2 ⟨rfl, rfl⟩
  exact ⟨rfl, Chg.hold hr ng h⟩
theorem GiftCell.set0 {w : World} {x : Nat} {h kh : Int} {b v kv : Value} (H : GiftCell w x h b v kh kv) (y : Int) : GiftCell (w.setCell ⟨x, 0, none⟩ (.int .i64 y)) x y b v kh kv := by unfold GiftCell at H ⊢; simp [World.setCell, Array.getElem?_modify, H]
theorem GiftCell.set1 {w : World} {x : Nat} {h kh : Int} {b v kv : Value} (H : GiftCell w x h b v kh kv) (y : Value) : GiftCell (w.setCell ⟨x, 1, none⟩ y) x h y v kh kv := by unfold GiftCell at H ⊢; simp [World.setCell, Array.getElem?_modify, H]
theorem GiftCell.set2 {w : World} {x : Nat} {h kh : Int} {b v kv : Value} (H : GiftCell w x h b v kh kv) (y : Value) : GiftCell (w.setCell ⟨x, 2, none⟩ y) x h b y kh kv := by unfold GiftCell at H ⊢; simp [World.setCell, Array.getElem?_modify, H]
theorem mix_read {W : World} {b1 b2 B : Nat} {bv wv kv bv' wv' kv' : Value} {H1 H2 H3 H4 : List HV} {G O : GiftD} (h1 : OwnG W b1 bv wv kv H1 H2 O) (h2 : OwnG W b2 bv' wv' kv' H3 H4 G) (hB1 : B ≤ b1) (hB2 : B ≤ b2) : GiftR (fun b => B ≤ b) W (giftV G.h bv wv G.kh kv') ⟨G.h, O.bx, O.wh, G.kh, G.kv⟩ := by
  obtain ⟨A, ca, rfl, q1⟩ := h1.sb.read
  obtain ⟨B', cb, rfl, q2⟩ := h1.sw.read
  obtain ⟨C, cc, rfl, q3, q4, q5⟩ := own_ints h2.sk rfl
  exact ⟨A, ca, B', cb, C, cc, rfl, q1.mono (fun b _ hb => Nat.le_trans hB1 hb), q2.mono (fun b _ hb => Nat.le_trans hB1 hb), q3, q4, fun b off e => .inr (Nat.le_trans hB2 (q5 b off e).1)⟩
theorem copy_read {W : World} {b1 B p : Nat} {lb gh : Int} {bv wv kv : Value} {H1 H2 : List HV} {S T : List Shr} {gkh : Int} {M : List Int} {O X : GiftD} (h1 : OwnG W b1 bv wv kv H1 H2 (mapG (nameS gh) X)) (hB1 : B ≤ b1) : GiftR (fun b => B ≤ b) W (giftV gh bv wv gh kv) (spX p 5 lb ⟨gh, S, T, gkh, M⟩ O X) := by
  obtain ⟨A, ca, B', cb, C, cc, e, q1, q2, q3⟩ := h1.read
  have e2 : spX p 5 lb ⟨gh, S, T, gkh, M⟩ O X = ⟨gh, X.bx.map (nameS gh), X.wh.map (nameS gh), gh, X.kv⟩ := rfl
  rw [e2]
  injection e with e
  simp at e
  obtain ⟨rfl, rfl, rfl⟩ := e
  refine ⟨A, ca, B', cb, C, cc, ?_, q1.mono (fun b _ hb => Nat.le_trans hB1 hb), q2.mono (fun b _ hb => Nat.le_trans hB1 hb), q3.mono (fun b _ hb => Nat.le_trans hB1 hb)⟩
  simp [mapG, nameS]
theorem blk_in {bv wv kv : Value} {Hb Hw : List HV} {G : GiftD} {w : World} {base x : Nat} (h : OwnG w base bv wv kv Hb Hw G) (hx : x < base ∨ w.heap.size ≤ x) : ¬ blkG bv wv kv Hb Hw x := fun hb => by have := h.blk hb; omega

set_option maxRecDepth 100000 in
set_option maxHeartbeats 8000000 in
theorem spoil_any {P P1 P2 : Nat → Prop} (p : Nat) (n h lh lk lb : Int) (u v x : Value) (G O X : GiftD) (w : World) (hB : Bases w) (hp : 2 ≤ p) (hp2 : p ≤ 1073741824) (hG : GiftR P w u G) (hO : GiftR P1 w v O) (hX : GiftR P2 w x X) (sG : GSmall G) (sO : GSmall O) (sX : GSmall X) :
    Calls Tryd.prog 21 #[planV p n h, lieV lh lk lb, u, v, x] w (SpoilP (spG p n h lh lk lb G O X) (spB p n h lh lk G) (spE p n h lh lk G) w) := by
  have HCK := Lib.hid (fun (W : World) (hb : Below w.heap.size w W) => check_lie p n h lh lk lb W (hB.below hb hB.1))
  have HGR := Lib.hid (hG.mono (Q := fun b => b < w.heap.size) (fun b hb _ => hb))
  have HOR := Lib.hid (hO.mono (Q := fun b => b < w.heap.size) (fun b hb _ => hb))
  have HXR := Lib.hid (hX.mono (Q := fun b => b < w.heap.size) (fun b hb _ => hb))
  have SG := Lib.hid sG
  have SO := Lib.hid sO
  have SX := Lib.hid sX
  obtain ⟨A, ca, B, cb, C, cc, rfl, -⟩ := hG
  obtain ⟨A1, ca1, B1, cb1, C1, cc1, rfl, -⟩ := hO
  obtain ⟨A2, ca2, B2, cb2, C2, cc2, rfl, -⟩ := hX
  clear hB sG sO sX
  by_cases hck : chkE p n h lh lk = 0
  · by_cases hgl : G.h = lh
    · have E1 := Lib.hid (fun h4 => sp_4 (lb := lb) (O := O) (X := X) hck hgl h4)
      have E2 := Lib.hid (fun h4 => sp_ok (lb := lb) (O := O) (X := X) hck hgl h4)
      obtain ⟨-, -, hin⟩ := chk_zero hck
      obtain ⟨hk0, hk5⟩ := inI_of hin
      rw [hck] at HCK
      subst hgl
      obtain ⟨gh, S, T, gkh, M⟩ := G
      obtain ⟨oh, S1, T1, okh, M1⟩ := O
      obtain ⟨xh, S2, T2, xkh, M2⟩ := X
      simp only at *
      clear hck hin
      have hkk : lk = 0 ∨ lk = 1 ∨ lk = 2 ∨ lk = 3 ∨ lk = 4 ∨ lk = 5 := by omega
      rcases hkk with hk0 | hk1 | hk2 | hk3 | hk4 | hk5
      · subst hk0
        have E := Lib.hid (E2.out (by omega))
        rw [E.out.1, E.out.2.1, E.out.2.2]
        have t1 : (gh != gh) = false := by simp
        clear E E1 E2
        go_enter Tryd.func21, Tryd.ntmps21
        go_wp2_with fail
        refine gen_calls fun w1 hw1 => ?_
        have hb1 : Below w.heap.size w w1 := by rw [hw1]; exact bl_alloc _ (bl_alloc _ (bl_alloc _ (bl_alloc _ (bl_alloc _ (below_alloc _ _)))))
        have hP : PlanCell w1 w.heap.size p n h := by rw [hw1]; exact (((((PlanCell.new _ _ _ rfl).alloc _).alloc _).alloc _).alloc _).alloc _
        have hL : LieCell w1 (w.heap.size + 1) gh 0 lb := by rw [hw1]; exact ((((LieCell.new _ _ _ (by simp)).below (below_alloc _ _)).below (below_alloc _ _)).below (below_alloc _ _)).below (below_alloc _ _)
        have hG : GiftCell w1 (w.heap.size + 1 + 1) gh (slV A S.length ca) (slV B T.length cb) gkh (slV C M.length cc) := by rw [hw1]; exact (((GiftCell.new _ _ _ _ _ (by simp)).alloc _).alloc _).alloc _
        have hO : GiftCell w1 (w.heap.size + 1 + 1 + 1) oh (slV A1 S1.length ca1) (slV B1 T1.length cb1) okh (slV C1 M1.length cc1) := by rw [hw1]; exact ((GiftCell.new _ _ _ _ _ (by simp)).alloc _).alloc _
        have hX : GiftCell w1 (w.heap.size + 1 + 1 + 1 + 1) xh (slV A2 S2.length ca2) (slV B2 T2.length cb2) xkh (slV C2 M2.length cc2) := by rw [hw1]; exact (GiftCell.new _ _ _ _ _ (by simp)).alloc _
        have hR : GiftCell w1 (w.heap.size + 1 + 1 + 1 + 1 + 1) 0 (.slice none 0 0) (.slice none 0 0) 0 (.slice none 0 0) := by rw [hw1]; exact GiftCell.new _ _ _ _ _ (by simp)
        have hz1 : w1.heap.size = w.heap.size + 6 := by rw [hw1]; simp
        clear hw1
        refine ret_below (HCK.out _ hb1) fun w2 hb2 => ?_
        have hz2 : w.heap.size + 6 ≤ w2.heap.size := by have := hb2.size; omega
        have HP := Lib.hid (hP.below hb2)
        have HL := Lib.hid (hL.below hb2)
        have HG := Lib.hid (hG.below hb2)
        have HO := Lib.hid (hO.below hb2)
        have HX := Lib.hid (hX.below hb2)
        have HR := Lib.hid (hR.below hb2)
        have HB := Lib.hid (below_trans hb1 hb2)
        clear hP hL hG hO hX hR hb1 hb2 HCK hz1
        have g0 := HG.out.c0
        have g1 := HG.out.c1
        have g2 := HG.out.c2
        have g3 := HG.out.c3
        have g4 := HG.out.c4
        have l0 := HL.out.c0
        go_wp2_with fail
        refine (copied_any (P := fun b => b < w.heap.size) _ ⟨gh, S, T, gkh, M⟩ w2 (HGR.out.below HB.out) SG.out).mono ?_
        rintro e w3 ⟨bv, wv, kv, Hb, Hw, rfl, hOw, hb3⟩
        obtain ⟨Ab, cab, hbv⟩ := row_slice hOw.sb
        obtain ⟨Aw, caw, hwv⟩ := row_slice hOw.sw
        obtain ⟨Ak, cak, hkv, -⟩ := own_ints hOw.sk rfl
        simp only at hbv hwv hkv
        subst hbv; subst hwv; subst hkv
        have HOW := Lib.hid hOw
        have HB3 := Lib.hid hb3
        have hz3 := hb3.size
        have HP3 := Lib.hid (HP.out.below hb3)
        have HL3 := Lib.hid (HL.out.below hb3)
        have HG3 := Lib.hid (HG.out.below hb3)
        have HO3 := Lib.hid (HO.out.below hb3)
        have HX3 := Lib.hid (HX.out.below hb3)
        have HR3 := Lib.hid (HR.out.below hb3)
        have HBW := Lib.hid (below_trans HB.out hb3)
        have l1 := HL3.out.c1
        have lz := HL3.out.lt
        have lzr := HR3.out.lt
        clear hOw hb3 g0 g1 g2 g3 g4 l0
        go_upto_region 19 with fail
        refine gen_world fun w9 hw9 => ?_
        have hb9 : Below w3.heap.size w3 w9 := by rw [hw9]; exact below_alloc _ _
        have HOC := Lib.hid (show GiftCell w9 w3.heap.size gh (slV Ab S.length cab) (slV Aw T.length caw) gkh (slV Ak M.length cak) from by rw [hw9]; exact GiftCell.new _ _ _ _ _ rfl)
        have HR9 := Lib.hid (HR3.out.below hb9)
        have HB9 := Lib.hid (below_trans HBW.out hb9)
        have HO9 := Lib.hid (HOW.out.below hb9)
        clear hw9 hb9
        have o0 := HOC.out.c0
        have o1 := HOC.out.c1
        have o2 := HOC.out.c2
        have o3 := HOC.out.c3
        have o4 := HOC.out.c4
        have r0 := HR9.out.c0
        have r1 := HR9.out.c1
        have r2 := HR9.out.c2
        have r3 := HR9.out.c3
        have r4 := HR9.out.c4
        have f0 := HR9.out.frozen 0
        have f1 := HR9.out.frozen 1
        have f2 := HR9.out.frozen 2
        have f3 := HR9.out.frozen 3
        have f4 := HR9.out.frozen 4
        have HGF := Lib.hid (show GiftR (fun b => w.heap.size + 6 ≤ b) w9 (giftV gh (slV Ab S.length cab) (slV Aw T.length caw) gkh (slV Ak M.length cak)) (spX p 0 lb ⟨gh, S, T, gkh, M⟩ ⟨oh, S1, T1, okh, M1⟩ ⟨xh, S2, T2, xkh, M2⟩) from HO9.out.read.mono (fun b _ hb => by omega))
        have HFL := Lib.hid (HR9.out.fill gh (slV Ab S.length cab) (slV Aw T.length caw) gkh (slV Ak M.length cak))
        go_wp2_with fail
        refine bodyPost_ret (results_gift3 rfl _ _ (w.heap.size + 1 + 1 + 1 + 1 + 1) rfl HFL.out) rfl ?_
        exact spoil_end _ rfl HB9.out HGF.out _ _ _ _ _
      · subst hk1
        have E := Lib.hid (E2.out (by omega))
        rw [E.out.1, E.out.2.1, E.out.2.2]
        have t1 : (gh != gh) = false := by simp
        clear E E1 E2
        go_enter Tryd.func21, Tryd.ntmps21
        go_wp2_with fail
        refine gen_calls fun w1 hw1 => ?_
        have hb1 : Below w.heap.size w w1 := by rw [hw1]; exact bl_alloc _ (bl_alloc _ (bl_alloc _ (bl_alloc _ (bl_alloc _ (below_alloc _ _)))))
        have hP : PlanCell w1 w.heap.size p n h := by rw [hw1]; exact (((((PlanCell.new _ _ _ rfl).alloc _).alloc _).alloc _).alloc _).alloc _
        have hL : LieCell w1 (w.heap.size + 1) gh 1 lb := by rw [hw1]; exact ((((LieCell.new _ _ _ (by simp)).below (below_alloc _ _)).below (below_alloc _ _)).below (below_alloc _ _)).below (below_alloc _ _)
        have hG : GiftCell w1 (w.heap.size + 1 + 1) gh (slV A S.length ca) (slV B T.length cb) gkh (slV C M.length cc) := by rw [hw1]; exact (((GiftCell.new _ _ _ _ _ (by simp)).alloc _).alloc _).alloc _
        have hO : GiftCell w1 (w.heap.size + 1 + 1 + 1) oh (slV A1 S1.length ca1) (slV B1 T1.length cb1) okh (slV C1 M1.length cc1) := by rw [hw1]; exact ((GiftCell.new _ _ _ _ _ (by simp)).alloc _).alloc _
        have hX : GiftCell w1 (w.heap.size + 1 + 1 + 1 + 1) xh (slV A2 S2.length ca2) (slV B2 T2.length cb2) xkh (slV C2 M2.length cc2) := by rw [hw1]; exact (GiftCell.new _ _ _ _ _ (by simp)).alloc _
        have hR : GiftCell w1 (w.heap.size + 1 + 1 + 1 + 1 + 1) 0 (.slice none 0 0) (.slice none 0 0) 0 (.slice none 0 0) := by rw [hw1]; exact GiftCell.new _ _ _ _ _ (by simp)
        have hz1 : w1.heap.size = w.heap.size + 6 := by rw [hw1]; simp
        clear hw1
        refine ret_below (HCK.out _ hb1) fun w2 hb2 => ?_
        have hz2 : w.heap.size + 6 ≤ w2.heap.size := by have := hb2.size; omega
        have HP := Lib.hid (hP.below hb2)
        have HL := Lib.hid (hL.below hb2)
        have HG := Lib.hid (hG.below hb2)
        have HO := Lib.hid (hO.below hb2)
        have HX := Lib.hid (hX.below hb2)
        have HR := Lib.hid (hR.below hb2)
        have HB := Lib.hid (below_trans hb1 hb2)
        clear hP hL hG hO hX hR hb1 hb2 HCK hz1
        have g0 := HG.out.c0
        have g1 := HG.out.c1
        have g2 := HG.out.c2
        have g3 := HG.out.c3
        have g4 := HG.out.c4
        have l0 := HL.out.c0
        go_wp2_with fail
        refine (copied_any (P := fun b => b < w.heap.size) _ ⟨gh, S, T, gkh, M⟩ w2 (HGR.out.below HB.out) SG.out).mono ?_
        rintro e w3 ⟨bv, wv, kv, Hb, Hw, rfl, hOw, hb3⟩
        obtain ⟨Ab, cab, hbv⟩ := row_slice hOw.sb
        obtain ⟨Aw, caw, hwv⟩ := row_slice hOw.sw
        obtain ⟨Ak, cak, hkv, -⟩ := own_ints hOw.sk rfl
        simp only at hbv hwv hkv
        subst hbv; subst hwv; subst hkv
        have HOW := Lib.hid hOw
        have HB3 := Lib.hid hb3
        have hz3 := hb3.size
        have HP3 := Lib.hid (HP.out.below hb3)
        have HL3 := Lib.hid (HL.out.below hb3)
        have HG3 := Lib.hid (HG.out.below hb3)
        have HO3 := Lib.hid (HO.out.below hb3)
        have HX3 := Lib.hid (HX.out.below hb3)
        have HR3 := Lib.hid (HR.out.below hb3)
        have HBW := Lib.hid (below_trans HB.out hb3)
        have l1 := HL3.out.c1
        have lz := HL3.out.lt
        have lzr := HR3.out.lt
        clear hOw hb3 g0 g1 g2 g3 g4 l0
        have p0 := HP3.out.c0
        have p1 := HP3.out.c1
        have p2 := HP3.out.c2
        have l2 := HL3.out.c2
        have lp := HP3.out.lt
        go_wp2_with fail
        refine gen_calls fun w4 hw4 => ?_
        have hb4 : Below w3.heap.size w3 w4 := by rw [hw4]; exact below_alloc _ _
        have hOC4 : GiftCell w4 w3.heap.size gh (slV Ab S.length cab) (slV Aw T.length caw) gkh (slV Ak M.length cak) := by rw [hw4]; exact GiftCell.new _ _ _ _ _ rfl
        clear hw4
        have HOC4 := Lib.hid hOC4
        have HR4 := Lib.hid (HR3.out.below hb4)
        have HB4 := Lib.hid (below_trans HBW.out hb4)
        have HOW4 := Lib.hid (HOW.out.below hb4)
        have HG4 := Lib.hid (HG3.out.below hb4)
        have HL4 := Lib.hid (HL3.out.below hb4)
        have hz4 := hb4.size
        have lo4 := hOC4.lt
        clear hOC4 hb4
        clear p0 p1 p2 l2 l1
        refine (value_any p n h lb w2.heap.size _ _ _ Hb Hw ⟨gh, S, T, gkh, M⟩ w4 HOW4.out SG.out hp hp2).mono ?_
        rintro e w5 ⟨H1, H2, rfl, hO5, hi5, hs5⟩
        rw [show giftV (valG p lb ⟨gh, S, T, gkh, M⟩).h (slV Ab S.length cab) (slV Aw T.length caw) (valG p lb ⟨gh, S, T, gkh, M⟩).kh (slV Ak M.length cak) = giftV gh (slV Ab S.length cab) (slV Aw T.length caw) gkh (slV Ak M.length cak) from rfl]
        have hX5 : ∀ r, r < w2.heap.size ∨ w3.heap.size ≤ r → ¬ blkG (slV Ab S.length cab) (slV Aw T.length caw) (slV Ak M.length cak) Hb Hw r := fun r hr hb => by
          have := HOW.out.blk hb
          omega
        have HOC5 := Lib.hid (HOC4.out.sav hs5 (hX5 _ (.inr (Nat.le_refl _))))
        have HR5 := Lib.hid (HR4.out.sav hs5 (hX5 _ (.inl (by omega))))
        have HB5 := Lib.hid (HB4.out.trans (hs5.below w.heap.size (by omega) (fun x _ hx => by have := (HOW.out.blk hx).1; omega)))
        have HO5 := Lib.hid hO5
        have HI5 := Lib.hid (fun x hx => fun e => hX5 x e (hi5 x hx))
        clear hO5 hi5 hs5 hX5
        have o0 := HOC5.out.c0
        have o1 := HOC5.out.c1
        have o2 := HOC5.out.c2
        have o3 := HOC5.out.c3
        have o4 := HOC5.out.c4
        have v0 := HOC5.out.frozen 0
        have v1 := HOC5.out.frozen 1
        have v2 := HOC5.out.frozen 2
        have v3 := HOC5.out.frozen 3
        have v4 := HOC5.out.frozen 4
        go_upto_region 19 with fail
        refine gen_world fun w9 hw9 => ?_
        have hw9' : w9 = ((((w5.setCell ⟨w3.heap.size, 0, none⟩ (.int .i64 gh)).setCell ⟨w3.heap.size, 1, none⟩ (slV Ab S.length cab)).setCell ⟨w3.heap.size, 2, none⟩ (slV Aw T.length caw)).setCell ⟨w3.heap.size, 3, none⟩ (.int .i64 gkh)).setCell ⟨w3.heap.size, 4, none⟩ (slV Ak M.length cak) := hw9
        have hss := sav_fill w5 w3.heap.size gh gkh (slV Ab S.length cab) (slV Aw T.length caw) (slV Ak M.length cak)
        have hoc := HOC5.out.fill gh (slV Ab S.length cab) (slV Aw T.length caw) gkh (slV Ak M.length cak)
        rw [← hw9'] at hss hoc
        clear hw9 hw9' o0 o1 o2 o3 o4 v0 v1 v2 v3 v4
        have HOC := Lib.hid hoc
        have HR9 := Lib.hid (HR5.out.sav hss (fun e => by omega))
        have HB9 := Lib.hid (HB5.out.trans (hss.below w.heap.size HB5.out.size (fun x _ e => by omega)))
        have HO9 := Lib.hid (HO5.out.sav hss (fun x hx e => HI5.out x hx (.inr (by omega))))
        clear hss hoc
        have o0 := HOC.out.c0
        have o1 := HOC.out.c1
        have o2 := HOC.out.c2
        have o3 := HOC.out.c3
        have o4 := HOC.out.c4
        have r0 := HR9.out.c0
        have r1 := HR9.out.c1
        have r2 := HR9.out.c2
        have r3 := HR9.out.c3
        have r4 := HR9.out.c4
        have f0 := HR9.out.frozen 0
        have f1 := HR9.out.frozen 1
        have f2 := HR9.out.frozen 2
        have f3 := HR9.out.frozen 3
        have f4 := HR9.out.frozen 4
        have HGF := Lib.hid (show GiftR (fun b => w.heap.size + 6 ≤ b) w9 (giftV gh (slV Ab S.length cab) (slV Aw T.length caw) gkh (slV Ak M.length cak)) (spX p 1 lb ⟨gh, S, T, gkh, M⟩ ⟨oh, S1, T1, okh, M1⟩ ⟨xh, S2, T2, xkh, M2⟩) from HO9.out.read.mono (fun b _ hb => by omega))
        have HFL := Lib.hid (HR9.out.fill gh (slV Ab S.length cab) (slV Aw T.length caw) gkh (slV Ak M.length cak))
        go_wp2_with fail
        refine bodyPost_ret (results_gift3 rfl _ _ (w.heap.size + 1 + 1 + 1 + 1 + 1) rfl HFL.out) rfl ?_
        exact spoil_end _ rfl HB9.out HGF.out _ _ _ _ _
      · subst hk2
        have E := Lib.hid (E2.out (by omega))
        rw [E.out.1, E.out.2.1, E.out.2.2]
        have t1 : (gh != gh) = false := by simp
        clear E E1 E2
        go_enter Tryd.func21, Tryd.ntmps21
        go_wp2_with fail
        refine gen_calls fun w1 hw1 => ?_
        have hb1 : Below w.heap.size w w1 := by rw [hw1]; exact bl_alloc _ (bl_alloc _ (bl_alloc _ (bl_alloc _ (bl_alloc _ (below_alloc _ _)))))
        have hP : PlanCell w1 w.heap.size p n h := by rw [hw1]; exact (((((PlanCell.new _ _ _ rfl).alloc _).alloc _).alloc _).alloc _).alloc _
        have hL : LieCell w1 (w.heap.size + 1) gh 2 lb := by rw [hw1]; exact ((((LieCell.new _ _ _ (by simp)).below (below_alloc _ _)).below (below_alloc _ _)).below (below_alloc _ _)).below (below_alloc _ _)
        have hG : GiftCell w1 (w.heap.size + 1 + 1) gh (slV A S.length ca) (slV B T.length cb) gkh (slV C M.length cc) := by rw [hw1]; exact (((GiftCell.new _ _ _ _ _ (by simp)).alloc _).alloc _).alloc _
        have hO : GiftCell w1 (w.heap.size + 1 + 1 + 1) oh (slV A1 S1.length ca1) (slV B1 T1.length cb1) okh (slV C1 M1.length cc1) := by rw [hw1]; exact ((GiftCell.new _ _ _ _ _ (by simp)).alloc _).alloc _
        have hX : GiftCell w1 (w.heap.size + 1 + 1 + 1 + 1) xh (slV A2 S2.length ca2) (slV B2 T2.length cb2) xkh (slV C2 M2.length cc2) := by rw [hw1]; exact (GiftCell.new _ _ _ _ _ (by simp)).alloc _
        have hR : GiftCell w1 (w.heap.size + 1 + 1 + 1 + 1 + 1) 0 (.slice none 0 0) (.slice none 0 0) 0 (.slice none 0 0) := by rw [hw1]; exact GiftCell.new _ _ _ _ _ (by simp)
        have hz1 : w1.heap.size = w.heap.size + 6 := by rw [hw1]; simp
        clear hw1
        refine ret_below (HCK.out _ hb1) fun w2 hb2 => ?_
        have hz2 : w.heap.size + 6 ≤ w2.heap.size := by have := hb2.size; omega
        have HP := Lib.hid (hP.below hb2)
        have HL := Lib.hid (hL.below hb2)
        have HG := Lib.hid (hG.below hb2)
        have HO := Lib.hid (hO.below hb2)
        have HX := Lib.hid (hX.below hb2)
        have HR := Lib.hid (hR.below hb2)
        have HB := Lib.hid (below_trans hb1 hb2)
        clear hP hL hG hO hX hR hb1 hb2 HCK hz1
        have g0 := HG.out.c0
        have g1 := HG.out.c1
        have g2 := HG.out.c2
        have g3 := HG.out.c3
        have g4 := HG.out.c4
        have l0 := HL.out.c0
        go_wp2_with fail
        refine (copied_any (P := fun b => b < w.heap.size) _ ⟨gh, S, T, gkh, M⟩ w2 (HGR.out.below HB.out) SG.out).mono ?_
        rintro e w3 ⟨bv, wv, kv, Hb, Hw, rfl, hOw, hb3⟩
        obtain ⟨Ab, cab, hbv⟩ := row_slice hOw.sb
        obtain ⟨Aw, caw, hwv⟩ := row_slice hOw.sw
        obtain ⟨Ak, cak, hkv, -⟩ := own_ints hOw.sk rfl
        simp only at hbv hwv hkv
        subst hbv; subst hwv; subst hkv
        have HOW := Lib.hid hOw
        have HB3 := Lib.hid hb3
        have hz3 := hb3.size
        have HP3 := Lib.hid (HP.out.below hb3)
        have HL3 := Lib.hid (HL.out.below hb3)
        have HG3 := Lib.hid (HG.out.below hb3)
        have HO3 := Lib.hid (HO.out.below hb3)
        have HX3 := Lib.hid (HX.out.below hb3)
        have HR3 := Lib.hid (HR.out.below hb3)
        have HBW := Lib.hid (below_trans HB.out hb3)
        have l1 := HL3.out.c1
        have lz := HL3.out.lt
        have lzr := HR3.out.lt
        clear hOw hb3 g0 g1 g2 g3 g4 l0
        have p0 := HP3.out.c0
        have p1 := HP3.out.c1
        have p2 := HP3.out.c2
        have l2 := HL3.out.c2
        have lp := HP3.out.lt
        go_wp2_with fail
        refine gen_calls fun w4 hw4 => ?_
        have hb4 : Below w3.heap.size w3 w4 := by rw [hw4]; exact below_alloc _ _
        have hOC4 : GiftCell w4 w3.heap.size gh (slV Ab S.length cab) (slV Aw T.length caw) gkh (slV Ak M.length cak) := by rw [hw4]; exact GiftCell.new _ _ _ _ _ rfl
        clear hw4
        have HOC4 := Lib.hid hOC4
        have HR4 := Lib.hid (HR3.out.below hb4)
        have HB4 := Lib.hid (below_trans HBW.out hb4)
        have HOW4 := Lib.hid (HOW.out.below hb4)
        have HG4 := Lib.hid (HG3.out.below hb4)
        have HL4 := Lib.hid (HL3.out.below hb4)
        have hz4 := hb4.size
        have lo4 := hOC4.lt
        clear hOC4 hb4
        clear p0 p1 p2 l2 l1
        refine (all_any p n h lb w2.heap.size _ _ _ Hb Hw ⟨gh, S, T, gkh, M⟩ w4 HOW4.out SG.out hp hp2 (by omega)).mono ?_
        rintro e w5 ⟨H1, H2, rfl, hO5, hi5, hs5⟩
        rw [show giftV (mapG (shS p (moreI p lb)) ⟨gh, S, T, gkh, M⟩).h (slV Ab S.length cab) (slV Aw T.length caw) (mapG (shS p (moreI p lb)) ⟨gh, S, T, gkh, M⟩).kh (slV Ak M.length cak) = giftV gh (slV Ab S.length cab) (slV Aw T.length caw) gkh (slV Ak M.length cak) from rfl]
        have hX5 : ∀ r, r < w2.heap.size ∨ w3.heap.size ≤ r → ¬ blkG (slV Ab S.length cab) (slV Aw T.length caw) (slV Ak M.length cak) Hb Hw r := fun r hr hb => by
          have := HOW.out.blk hb
          omega
        have HOC5 := Lib.hid (HOC4.out.sav hs5 (hX5 _ (.inr (Nat.le_refl _))))
        have HR5 := Lib.hid (HR4.out.sav hs5 (hX5 _ (.inl (by omega))))
        have HB5 := Lib.hid (HB4.out.trans (hs5.below w.heap.size (by omega) (fun x _ hx => by have := (HOW.out.blk hx).1; omega)))
        have HO5 := Lib.hid hO5
        have HI5 := Lib.hid (fun x hx => fun e => hX5 x e (hi5 x hx))
        clear hO5 hi5 hs5 hX5
        have o0 := HOC5.out.c0
        have o1 := HOC5.out.c1
        have o2 := HOC5.out.c2
        have o3 := HOC5.out.c3
        have o4 := HOC5.out.c4
        have v0 := HOC5.out.frozen 0
        have v1 := HOC5.out.frozen 1
        have v2 := HOC5.out.frozen 2
        have v3 := HOC5.out.frozen 3
        have v4 := HOC5.out.frozen 4
        go_upto_region 19 with fail
        refine gen_world fun w9 hw9 => ?_
        have hw9' : w9 = ((((w5.setCell ⟨w3.heap.size, 0, none⟩ (.int .i64 gh)).setCell ⟨w3.heap.size, 1, none⟩ (slV Ab S.length cab)).setCell ⟨w3.heap.size, 2, none⟩ (slV Aw T.length caw)).setCell ⟨w3.heap.size, 3, none⟩ (.int .i64 gkh)).setCell ⟨w3.heap.size, 4, none⟩ (slV Ak M.length cak) := hw9
        have hss := sav_fill w5 w3.heap.size gh gkh (slV Ab S.length cab) (slV Aw T.length caw) (slV Ak M.length cak)
        have hoc := HOC5.out.fill gh (slV Ab S.length cab) (slV Aw T.length caw) gkh (slV Ak M.length cak)
        rw [← hw9'] at hss hoc
        clear hw9 hw9' o0 o1 o2 o3 o4 v0 v1 v2 v3 v4
        have HOC := Lib.hid hoc
        have HR9 := Lib.hid (HR5.out.sav hss (fun e => by omega))
        have HB9 := Lib.hid (HB5.out.trans (hss.below w.heap.size HB5.out.size (fun x _ e => by omega)))
        have HO9 := Lib.hid (HO5.out.sav hss (fun x hx e => HI5.out x hx (.inr (by omega))))
        clear hss hoc
        have o0 := HOC.out.c0
        have o1 := HOC.out.c1
        have o2 := HOC.out.c2
        have o3 := HOC.out.c3
        have o4 := HOC.out.c4
        have r0 := HR9.out.c0
        have r1 := HR9.out.c1
        have r2 := HR9.out.c2
        have r3 := HR9.out.c3
        have r4 := HR9.out.c4
        have f0 := HR9.out.frozen 0
        have f1 := HR9.out.frozen 1
        have f2 := HR9.out.frozen 2
        have f3 := HR9.out.frozen 3
        have f4 := HR9.out.frozen 4
        have HGF := Lib.hid (show GiftR (fun b => w.heap.size + 6 ≤ b) w9 (giftV gh (slV Ab S.length cab) (slV Aw T.length caw) gkh (slV Ak M.length cak)) (spX p 2 lb ⟨gh, S, T, gkh, M⟩ ⟨oh, S1, T1, okh, M1⟩ ⟨xh, S2, T2, xkh, M2⟩) from HO9.out.read.mono (fun b _ hb => by omega))
        have HFL := Lib.hid (HR9.out.fill gh (slV Ab S.length cab) (slV Aw T.length caw) gkh (slV Ak M.length cak))
        go_wp2_with fail
        refine bodyPost_ret (results_gift3 rfl _ _ (w.heap.size + 1 + 1 + 1 + 1 + 1) rfl HFL.out) rfl ?_
        exact spoil_end _ rfl HB9.out HGF.out _ _ _ _ _
      · subst hk3
        have E := Lib.hid (E2.out (by omega))
        rw [E.out.1, E.out.2.1, E.out.2.2]
        have t1 : (gh != gh) = false := by simp
        clear E E1 E2
        go_enter Tryd.func21, Tryd.ntmps21
        go_wp2_with fail
        refine gen_calls fun w1 hw1 => ?_
        have hb1 : Below w.heap.size w w1 := by rw [hw1]; exact bl_alloc _ (bl_alloc _ (bl_alloc _ (bl_alloc _ (bl_alloc _ (below_alloc _ _)))))
        have hP : PlanCell w1 w.heap.size p n h := by rw [hw1]; exact (((((PlanCell.new _ _ _ rfl).alloc _).alloc _).alloc _).alloc _).alloc _
        have hL : LieCell w1 (w.heap.size + 1) gh 3 lb := by rw [hw1]; exact ((((LieCell.new _ _ _ (by simp)).below (below_alloc _ _)).below (below_alloc _ _)).below (below_alloc _ _)).below (below_alloc _ _)
        have hG : GiftCell w1 (w.heap.size + 1 + 1) gh (slV A S.length ca) (slV B T.length cb) gkh (slV C M.length cc) := by rw [hw1]; exact (((GiftCell.new _ _ _ _ _ (by simp)).alloc _).alloc _).alloc _
        have hO : GiftCell w1 (w.heap.size + 1 + 1 + 1) oh (slV A1 S1.length ca1) (slV B1 T1.length cb1) okh (slV C1 M1.length cc1) := by rw [hw1]; exact ((GiftCell.new _ _ _ _ _ (by simp)).alloc _).alloc _
        have hX : GiftCell w1 (w.heap.size + 1 + 1 + 1 + 1) xh (slV A2 S2.length ca2) (slV B2 T2.length cb2) xkh (slV C2 M2.length cc2) := by rw [hw1]; exact (GiftCell.new _ _ _ _ _ (by simp)).alloc _
        have hR : GiftCell w1 (w.heap.size + 1 + 1 + 1 + 1 + 1) 0 (.slice none 0 0) (.slice none 0 0) 0 (.slice none 0 0) := by rw [hw1]; exact GiftCell.new _ _ _ _ _ (by simp)
        have hz1 : w1.heap.size = w.heap.size + 6 := by rw [hw1]; simp
        clear hw1
        refine ret_below (HCK.out _ hb1) fun w2 hb2 => ?_
        have hz2 : w.heap.size + 6 ≤ w2.heap.size := by have := hb2.size; omega
        have HP := Lib.hid (hP.below hb2)
        have HL := Lib.hid (hL.below hb2)
        have HG := Lib.hid (hG.below hb2)
        have HO := Lib.hid (hO.below hb2)
        have HX := Lib.hid (hX.below hb2)
        have HR := Lib.hid (hR.below hb2)
        have HB := Lib.hid (below_trans hb1 hb2)
        clear hP hL hG hO hX hR hb1 hb2 HCK hz1
        have g0 := HG.out.c0
        have g1 := HG.out.c1
        have g2 := HG.out.c2
        have g3 := HG.out.c3
        have g4 := HG.out.c4
        have l0 := HL.out.c0
        go_wp2_with fail
        refine (copied_any (P := fun b => b < w.heap.size) _ ⟨gh, S, T, gkh, M⟩ w2 (HGR.out.below HB.out) SG.out).mono ?_
        rintro e w3 ⟨bv, wv, kv, Hb, Hw, rfl, hOw, hb3⟩
        obtain ⟨Ab, cab, hbv⟩ := row_slice hOw.sb
        obtain ⟨Aw, caw, hwv⟩ := row_slice hOw.sw
        obtain ⟨Ak, cak, hkv, -⟩ := own_ints hOw.sk rfl
        simp only at hbv hwv hkv
        subst hbv; subst hwv; subst hkv
        have HOW := Lib.hid hOw
        have HB3 := Lib.hid hb3
        have hz3 := hb3.size
        have HP3 := Lib.hid (HP.out.below hb3)
        have HL3 := Lib.hid (HL.out.below hb3)
        have HG3 := Lib.hid (HG.out.below hb3)
        have HO3 := Lib.hid (HO.out.below hb3)
        have HX3 := Lib.hid (HX.out.below hb3)
        have HR3 := Lib.hid (HR.out.below hb3)
        have HBW := Lib.hid (below_trans HB.out hb3)
        have l1 := HL3.out.c1
        have lz := HL3.out.lt
        have lzr := HR3.out.lt
        clear hOw hb3 g0 g1 g2 g3 g4 l0
        have d0 := HO3.out.c0
        have d1 := HO3.out.c1
        have d2 := HO3.out.c2
        have d3 := HO3.out.c3
        have d4 := HO3.out.c4
        have ld := HO3.out.lt
        go_wp2_with fail
        refine gen_calls fun w4 hw4 => ?_
        have hb4 : Below w3.heap.size w3 w4 := by rw [hw4]; exact below_alloc _ _
        have hOC4 : GiftCell w4 w3.heap.size gh (slV Ab S.length cab) (slV Aw T.length caw) gkh (slV Ak M.length cak) := by rw [hw4]; exact GiftCell.new _ _ _ _ _ rfl
        clear hw4
        have HOC4 := Lib.hid hOC4
        have HR4 := Lib.hid (HR3.out.below hb4)
        have HB4 := Lib.hid (below_trans HBW.out hb4)
        have HOW4 := Lib.hid (HOW.out.below hb4)
        have HG4 := Lib.hid (HG3.out.below hb4)
        have HL4 := Lib.hid (HL3.out.below hb4)
        have hz4 := hb4.size
        have lo4 := hOC4.lt
        clear hOC4 hb4
        clear d0 d1 d2 d3 d4 l1 ld
        refine (copied_any (P := fun b => b < w.heap.size) _ ⟨oh, S1, T1, okh, M1⟩ w4 (HOR.out.below HB4.out) SO.out).mono ?_
        rintro e w5 ⟨bv2, wv2, kv2, Hb2, Hw2, rfl, hO5, hb5⟩
        obtain ⟨Ab2, cab2, hbv⟩ := row_slice hO5.sb
        obtain ⟨Aw2, caw2, hwv⟩ := row_slice hO5.sw
        obtain ⟨Ak2, cak2, hkv, -⟩ := own_ints hO5.sk rfl
        simp only at hbv hwv hkv
        subst hbv; subst hwv; subst hkv
        have HO5 := Lib.hid hO5
        have HOC5 := Lib.hid (HOC4.out.below hb5)
        have HR5 := Lib.hid (HR4.out.below hb5)
        have HB5 := Lib.hid (below_trans HB4.out hb5)
        have HOW5 := Lib.hid (HOW4.out.below hb5)
        have HG5 := Lib.hid (HG4.out.below hb5)
        have hz5 := hb5.size
        have lo5 := HOC5.out.lt
        have lr5 := HR5.out.lt
        have lg5 := HG5.out.lt
        clear hO5 hb5
        go_upto_region 13 with fail
        refine gen_world fun w6 hw6 => ?_
        have hb6 : Below w5.heap.size w5 w6 := by rw [hw6]; exact below_alloc _ _
        have hx6 : GiftCell w6 w5.heap.size oh (slV Ab2 S1.length cab2) (slV Aw2 T1.length caw2) okh (slV Ak2 M1.length cak2) := by rw [hw6]; exact GiftCell.new _ _ _ _ _ rfl
        clear hw6
        have HOC6 := Lib.hid (HOC5.out.below hb6)
        have HR6 := Lib.hid (HR5.out.below hb6)
        have HB6 := Lib.hid (below_trans HB5.out hb6)
        have HO6 := Lib.hid (HO5.out.below hb6)
        have HOW6 := Lib.hid (HOW5.out.below hb6)
        have x1 := hx6.c1
        have x2 := hx6.c2
        have o1 := HOC6.out.c1
        have o2 := HOC6.out.c2
        have v1 := HOC6.out.frozen 1
        have v2 := HOC6.out.frozen 2
        have hne : ¬ w5.heap.size = w3.heap.size := by omega
        have hz6 := hb6.size
        clear hx6 hb6
        go_region
        go_upto_region 19 with fail
        refine gen_world fun w9 hw9 => ?_
        have hw9' : w9 = ((w6.setCell ⟨w3.heap.size, 1, none⟩ (slV Ab2 S1.length cab2)).setCell ⟨w3.heap.size, 2, none⟩ (slV Aw2 T1.length caw2)).drew := hw9
        have hss : Sav (fun b => b = w3.heap.size) w6 w9 := by rw [hw9']; exact ((Sav.set (X := fun b => b = w3.heap.size) _ ⟨w3.heap.size, 1, none⟩ _ rfl).trans (Sav.set (X := fun b => b = w3.heap.size) _ ⟨w3.heap.size, 2, none⟩ _ rfl)).trans (Sav.of_below (Below.refl _ _).drew)
        have hoc : GiftCell w9 w3.heap.size gh (slV Ab2 S1.length cab2) (slV Aw2 T1.length caw2) gkh (slV Ak M.length cak) := by rw [hw9']; exact (HOC6.out.set1 _).set2 _
        clear hw9 hw9' x1 x2 o1 o2 v1 v2 hne
        have HOC := Lib.hid hoc
        have HR9 := Lib.hid (HR6.out.sav hss (fun e => by omega))
        have HB9 := Lib.hid (HB6.out.trans (hss.below w.heap.size HB6.out.size (fun x _ e => by omega)))
        have HO9 := Lib.hid (HO6.out.sav hss (fun x hx e => by have := (HO5.out.blk hx).1; omega))
        have HOW9 := Lib.hid (HOW6.out.sav hss (fun x hx e => by have := (HOW.out.blk hx).2; omega))
        clear hss hoc
        have o0 := HOC.out.c0
        have o1 := HOC.out.c1
        have o2 := HOC.out.c2
        have o3 := HOC.out.c3
        have o4 := HOC.out.c4
        have r0 := HR9.out.c0
        have r1 := HR9.out.c1
        have r2 := HR9.out.c2
        have r3 := HR9.out.c3
        have r4 := HR9.out.c4
        have f0 := HR9.out.frozen 0
        have f1 := HR9.out.frozen 1
        have f2 := HR9.out.frozen 2
        have f3 := HR9.out.frozen 3
        have f4 := HR9.out.frozen 4
        have HGF := Lib.hid (show GiftR (fun b => w.heap.size + 6 ≤ b) w9 (giftV gh (slV Ab2 S1.length cab2) (slV Aw2 T1.length caw2) gkh (slV Ak M.length cak)) (spX p 3 lb ⟨gh, S, T, gkh, M⟩ ⟨oh, S1, T1, okh, M1⟩ ⟨xh, S2, T2, xkh, M2⟩) from mix_read HO9.out HOW9.out (by omega) (by omega))
        have HFL := Lib.hid (HR9.out.fill gh (slV Ab2 S1.length cab2) (slV Aw2 T1.length caw2) gkh (slV Ak M.length cak))
        go_wp2_with fail
        refine bodyPost_ret (results_gift3 rfl _ _ (w.heap.size + 1 + 1 + 1 + 1 + 1) rfl HFL.out) rfl ?_
        exact spoil_end _ rfl HB9.out HGF.out _ _ _ _ _
      · subst hk4
        have E := Lib.hid (E1.out rfl)
        rw [E.out.1, E.out.2.1, E.out.2.2]
        have t1 : (gh != gh) = false := by simp
        clear E E1 E2
        go_enter Tryd.func21, Tryd.ntmps21
        go_wp2_with fail
        refine gen_calls fun w1 hw1 => ?_
        have hb1 : Below w.heap.size w w1 := by rw [hw1]; exact bl_alloc _ (bl_alloc _ (bl_alloc _ (bl_alloc _ (bl_alloc _ (below_alloc _ _)))))
        have hP : PlanCell w1 w.heap.size p n h := by rw [hw1]; exact (((((PlanCell.new _ _ _ rfl).alloc _).alloc _).alloc _).alloc _).alloc _
        have hL : LieCell w1 (w.heap.size + 1) gh 4 lb := by rw [hw1]; exact ((((LieCell.new _ _ _ (by simp)).below (below_alloc _ _)).below (below_alloc _ _)).below (below_alloc _ _)).below (below_alloc _ _)
        have hG : GiftCell w1 (w.heap.size + 1 + 1) gh (slV A S.length ca) (slV B T.length cb) gkh (slV C M.length cc) := by rw [hw1]; exact (((GiftCell.new _ _ _ _ _ (by simp)).alloc _).alloc _).alloc _
        have hO : GiftCell w1 (w.heap.size + 1 + 1 + 1) oh (slV A1 S1.length ca1) (slV B1 T1.length cb1) okh (slV C1 M1.length cc1) := by rw [hw1]; exact ((GiftCell.new _ _ _ _ _ (by simp)).alloc _).alloc _
        have hX : GiftCell w1 (w.heap.size + 1 + 1 + 1 + 1) xh (slV A2 S2.length ca2) (slV B2 T2.length cb2) xkh (slV C2 M2.length cc2) := by rw [hw1]; exact (GiftCell.new _ _ _ _ _ (by simp)).alloc _
        have hR : GiftCell w1 (w.heap.size + 1 + 1 + 1 + 1 + 1) 0 (.slice none 0 0) (.slice none 0 0) 0 (.slice none 0 0) := by rw [hw1]; exact GiftCell.new _ _ _ _ _ (by simp)
        have hz1 : w1.heap.size = w.heap.size + 6 := by rw [hw1]; simp
        clear hw1
        refine ret_below (HCK.out _ hb1) fun w2 hb2 => ?_
        have hz2 : w.heap.size + 6 ≤ w2.heap.size := by have := hb2.size; omega
        have HP := Lib.hid (hP.below hb2)
        have HL := Lib.hid (hL.below hb2)
        have HG := Lib.hid (hG.below hb2)
        have HO := Lib.hid (hO.below hb2)
        have HX := Lib.hid (hX.below hb2)
        have HR := Lib.hid (hR.below hb2)
        have HB := Lib.hid (below_trans hb1 hb2)
        clear hP hL hG hO hX hR hb1 hb2 HCK hz1
        have g0 := HG.out.c0
        have g1 := HG.out.c1
        have g2 := HG.out.c2
        have g3 := HG.out.c3
        have g4 := HG.out.c4
        have l0 := HL.out.c0
        go_wp2_with fail
        refine (copied_any (P := fun b => b < w.heap.size) _ ⟨gh, S, T, gkh, M⟩ w2 (HGR.out.below HB.out) SG.out).mono ?_
        rintro e w3 ⟨bv, wv, kv, Hb, Hw, rfl, hOw, hb3⟩
        obtain ⟨Ab, cab, hbv⟩ := row_slice hOw.sb
        obtain ⟨Aw, caw, hwv⟩ := row_slice hOw.sw
        obtain ⟨Ak, cak, hkv, -⟩ := own_ints hOw.sk rfl
        simp only at hbv hwv hkv
        subst hbv; subst hwv; subst hkv
        have HOW := Lib.hid hOw
        have HB3 := Lib.hid hb3
        have hz3 := hb3.size
        have HP3 := Lib.hid (HP.out.below hb3)
        have HL3 := Lib.hid (HL.out.below hb3)
        have HG3 := Lib.hid (HG.out.below hb3)
        have HO3 := Lib.hid (HO.out.below hb3)
        have HX3 := Lib.hid (HX.out.below hb3)
        have HR3 := Lib.hid (HR.out.below hb3)
        have HBW := Lib.hid (below_trans HB.out hb3)
        have l1 := HL3.out.c1
        have lz := HL3.out.lt
        have lzr := HR3.out.lt
        clear hOw hb3 g0 g1 g2 g3 g4 l0
        go_upto_region 15 with fail
        refine gen_world fun w9 hw9 => ?_
        have hb9 : Below w3.heap.size w3 w9 := by rw [hw9]; exact below_alloc _ _
        have HR9 := Lib.hid (HR3.out.below hb9)
        have HB9 := Lib.hid (below_trans HBW.out hb9)
        clear hw9 hb9
        have r0 := HR9.out.c0
        have r1 := HR9.out.c1
        have r2 := HR9.out.c2
        have r3 := HR9.out.c3
        have r4 := HR9.out.c4
        have f0 := HR9.out.frozen 0
        have f1 := HR9.out.frozen 1
        have f2 := HR9.out.frozen 2
        have f3 := HR9.out.frozen 3
        have f4 := HR9.out.frozen 4
        go_wp2_with fail
        refine bodyPost_ret (results_gift3 rfl _ _ (w.heap.size + 1 + 1 + 1 + 1 + 1) rfl (HR9.out.fill 0 (.slice none 0 0) (.slice none 0 0) 0 (.slice none 0 0))) rfl ?_
        exact spoil_end _ rfl HB9.out (zero_gift _ _) _ _ _ _ _
      · subst hk5
        have E := Lib.hid (E2.out (by omega))
        rw [E.out.1, E.out.2.1, E.out.2.2]
        have t1 : (gh != gh) = false := by simp
        clear E E1 E2
        go_enter Tryd.func21, Tryd.ntmps21
        go_wp2_with fail
        refine gen_calls fun w1 hw1 => ?_
        have hb1 : Below w.heap.size w w1 := by rw [hw1]; exact bl_alloc _ (bl_alloc _ (bl_alloc _ (bl_alloc _ (bl_alloc _ (below_alloc _ _)))))
        have hP : PlanCell w1 w.heap.size p n h := by rw [hw1]; exact (((((PlanCell.new _ _ _ rfl).alloc _).alloc _).alloc _).alloc _).alloc _
        have hL : LieCell w1 (w.heap.size + 1) gh 5 lb := by rw [hw1]; exact ((((LieCell.new _ _ _ (by simp)).below (below_alloc _ _)).below (below_alloc _ _)).below (below_alloc _ _)).below (below_alloc _ _)
        have hG : GiftCell w1 (w.heap.size + 1 + 1) gh (slV A S.length ca) (slV B T.length cb) gkh (slV C M.length cc) := by rw [hw1]; exact (((GiftCell.new _ _ _ _ _ (by simp)).alloc _).alloc _).alloc _
        have hO : GiftCell w1 (w.heap.size + 1 + 1 + 1) oh (slV A1 S1.length ca1) (slV B1 T1.length cb1) okh (slV C1 M1.length cc1) := by rw [hw1]; exact ((GiftCell.new _ _ _ _ _ (by simp)).alloc _).alloc _
        have hX : GiftCell w1 (w.heap.size + 1 + 1 + 1 + 1) xh (slV A2 S2.length ca2) (slV B2 T2.length cb2) xkh (slV C2 M2.length cc2) := by rw [hw1]; exact (GiftCell.new _ _ _ _ _ (by simp)).alloc _
        have hR : GiftCell w1 (w.heap.size + 1 + 1 + 1 + 1 + 1) 0 (.slice none 0 0) (.slice none 0 0) 0 (.slice none 0 0) := by rw [hw1]; exact GiftCell.new _ _ _ _ _ (by simp)
        have hz1 : w1.heap.size = w.heap.size + 6 := by rw [hw1]; simp
        clear hw1
        refine ret_below (HCK.out _ hb1) fun w2 hb2 => ?_
        have hz2 : w.heap.size + 6 ≤ w2.heap.size := by have := hb2.size; omega
        have HP := Lib.hid (hP.below hb2)
        have HL := Lib.hid (hL.below hb2)
        have HG := Lib.hid (hG.below hb2)
        have HO := Lib.hid (hO.below hb2)
        have HX := Lib.hid (hX.below hb2)
        have HR := Lib.hid (hR.below hb2)
        have HB := Lib.hid (below_trans hb1 hb2)
        clear hP hL hG hO hX hR hb1 hb2 HCK hz1
        have g0 := HG.out.c0
        have g1 := HG.out.c1
        have g2 := HG.out.c2
        have g3 := HG.out.c3
        have g4 := HG.out.c4
        have l0 := HL.out.c0
        go_wp2_with fail
        refine (copied_any (P := fun b => b < w.heap.size) _ ⟨gh, S, T, gkh, M⟩ w2 (HGR.out.below HB.out) SG.out).mono ?_
        rintro e w3 ⟨bv, wv, kv, Hb, Hw, rfl, hOw, hb3⟩
        obtain ⟨Ab, cab, hbv⟩ := row_slice hOw.sb
        obtain ⟨Aw, caw, hwv⟩ := row_slice hOw.sw
        obtain ⟨Ak, cak, hkv, -⟩ := own_ints hOw.sk rfl
        simp only at hbv hwv hkv
        subst hbv; subst hwv; subst hkv
        have HOW := Lib.hid hOw
        have HB3 := Lib.hid hb3
        have hz3 := hb3.size
        have HP3 := Lib.hid (HP.out.below hb3)
        have HL3 := Lib.hid (HL.out.below hb3)
        have HG3 := Lib.hid (HG.out.below hb3)
        have HO3 := Lib.hid (HO.out.below hb3)
        have HX3 := Lib.hid (HX.out.below hb3)
        have HR3 := Lib.hid (HR.out.below hb3)
        have HBW := Lib.hid (below_trans HB.out hb3)
        have l1 := HL3.out.c1
        have lz := HL3.out.lt
        have lzr := HR3.out.lt
        clear hOw hb3 g0 g1 g2 g3 g4 l0
        have d0 := HX3.out.c0
        have d1 := HX3.out.c1
        have d2 := HX3.out.c2
        have d3 := HX3.out.c3
        have d4 := HX3.out.c4
        have ld := HX3.out.lt
        go_wp2_with fail
        refine gen_calls fun w4 hw4 => ?_
        have hb4 : Below w3.heap.size w3 w4 := by rw [hw4]; exact below_alloc _ _
        have hOC4 : GiftCell w4 w3.heap.size gh (slV Ab S.length cab) (slV Aw T.length caw) gkh (slV Ak M.length cak) := by rw [hw4]; exact GiftCell.new _ _ _ _ _ rfl
        clear hw4
        have HOC4 := Lib.hid hOC4
        have HR4 := Lib.hid (HR3.out.below hb4)
        have HB4 := Lib.hid (below_trans HBW.out hb4)
        have HOW4 := Lib.hid (HOW.out.below hb4)
        have HG4 := Lib.hid (HG3.out.below hb4)
        have HL4 := Lib.hid (HL3.out.below hb4)
        have hz4 := hb4.size
        have lo4 := hOC4.lt
        clear hOC4 hb4
        clear d0 d1 d2 d3 d4 l1 ld
        refine (copied_any (P := fun b => b < w.heap.size) _ ⟨xh, S2, T2, xkh, M2⟩ w4 (HXR.out.below HB4.out) SX.out).mono ?_
        rintro e w5 ⟨bv2, wv2, kv2, Hb2, Hw2, rfl, hO5, hb5⟩
        obtain ⟨Ab2, cab2, hbv⟩ := row_slice hO5.sb
        obtain ⟨Aw2, caw2, hwv⟩ := row_slice hO5.sw
        obtain ⟨Ak2, cak2, hkv, -⟩ := own_ints hO5.sk rfl
        simp only at hbv hwv hkv
        subst hbv; subst hwv; subst hkv
        have HO5 := Lib.hid hO5
        have HOC5 := Lib.hid (HOC4.out.below hb5)
        have HR5 := Lib.hid (HR4.out.below hb5)
        have HB5 := Lib.hid (below_trans HB4.out hb5)
        have HOW5 := Lib.hid (HOW4.out.below hb5)
        have HG5 := Lib.hid (HG4.out.below hb5)
        have hz5 := hb5.size
        have lo5 := HOC5.out.lt
        have lr5 := HR5.out.lt
        have lg5 := HG5.out.lt
        clear hO5 hb5
        go_wp2_with fail
        refine ((each_any _ _ (fun b => b = w.heap.size + 1 + 1) w4.heap.size 1048576 (nameS gh) _ _ _ Hb2 Hw2 ⟨xh, S2, T2, xkh, M2⟩ w5 HO5.out enter_spoil1 (spoil1_fn _ _ gh w5 HG5.out.c0) (fun b hb => ?_) (by omega) SX.out.b SX.out.w SX.out.k (by have := SX.out.bl; exact Nat.le_trans this (by omega)) (by have := SX.out.wl; exact Nat.le_trans this (by omega))).mono ?_)
        · subst hb
          exact ⟨lg5, fun hx => by have := (HO5.out.blk hx).1; omega⟩
        rintro e w6 ⟨H1, H2, rfl, hO6, hi6, hs6⟩
        rw [show giftV (mapG (nameS gh) ⟨xh, S2, T2, xkh, M2⟩).h (slV Ab2 S2.length cab2) (slV Aw2 T2.length caw2) (mapG (nameS gh) ⟨xh, S2, T2, xkh, M2⟩).kh (slV Ak2 M2.length cak2) = giftV xh (slV Ab2 S2.length cab2) (slV Aw2 T2.length caw2) gh (slV Ak2 M2.length cak2) from rfl]
        have hX6 : ∀ r, r < w4.heap.size → ¬ blkG (slV Ab2 S2.length cab2) (slV Aw2 T2.length caw2) (slV Ak2 M2.length cak2) Hb2 Hw2 r := fun r hr hb => by
          have := HO5.out.blk hb
          omega
        have HOC6 := Lib.hid (HOC5.out.sav hs6 (hX6 _ lo4))
        have HR6 := Lib.hid (HR5.out.sav hs6 (hX6 _ (by omega)))
        have HG6 := Lib.hid (HG5.out.sav hs6 (hX6 _ (by omega)))
        have HB6 := Lib.hid (HB5.out.trans (hs6.below w.heap.size (by omega) (fun x _ hx => by have := (HO5.out.blk hx).1; omega)))
        have HO6 := Lib.hid hO6
        have HI6 := Lib.hid (fun x hx => fun e => hX6 x e (hi6 x hx))
        clear hO6 hi6 hs6 hX6
        have o0 := HOC6.out.c0
        have o1 := HOC6.out.c1
        have o2 := HOC6.out.c2
        have o3 := HOC6.out.c3
        have o4 := HOC6.out.c4
        have v0 := HOC6.out.frozen 0
        have v1 := HOC6.out.frozen 1
        have v2 := HOC6.out.frozen 2
        have v3 := HOC6.out.frozen 3
        have v4 := HOC6.out.frozen 4
        have g0 := HG6.out.c0
        go_upto_region 19 with fail
        refine gen_world fun w9 hw9 => ?_
        have hw9' : w9 = (((((w6.setCell ⟨w3.heap.size, 0, none⟩ (.int .i64 xh)).setCell ⟨w3.heap.size, 1, none⟩ (slV Ab2 S2.length cab2)).setCell ⟨w3.heap.size, 2, none⟩ (slV Aw2 T2.length caw2)).setCell ⟨w3.heap.size, 3, none⟩ (.int .i64 gh)).setCell ⟨w3.heap.size, 4, none⟩ (slV Ak2 M2.length cak2)).setCell ⟨w3.heap.size, 0, none⟩ (.int .i64 gh) := hw9
        have hss := (sav_fill w6 w3.heap.size xh gh (slV Ab2 S2.length cab2) (slV Aw2 T2.length caw2) (slV Ak2 M2.length cak2)).trans (Sav.set (X := fun b => b = w3.heap.size) _ ⟨w3.heap.size, 0, none⟩ (.int .i64 gh) rfl)
        have hoc := (HOC6.out.fill xh (slV Ab2 S2.length cab2) (slV Aw2 T2.length caw2) gh (slV Ak2 M2.length cak2)).set0 gh
        rw [← hw9'] at hss hoc
        clear hw9 hw9' o0 o1 o2 o3 o4 v0 v1 v2 v3 v4 g0
        have HOC := Lib.hid hoc
        have HR9 := Lib.hid (HR6.out.sav hss (fun e => by omega))
        have HB9 := Lib.hid (HB6.out.trans (hss.below w.heap.size HB6.out.size (fun x _ e => by omega)))
        have HO9 := Lib.hid (HO6.out.sav hss (fun x hx e => HI6.out x hx (by omega)))
        clear hss hoc
        have o0 := HOC.out.c0
        have o1 := HOC.out.c1
        have o2 := HOC.out.c2
        have o3 := HOC.out.c3
        have o4 := HOC.out.c4
        have r0 := HR9.out.c0
        have r1 := HR9.out.c1
        have r2 := HR9.out.c2
        have r3 := HR9.out.c3
        have r4 := HR9.out.c4
        have f0 := HR9.out.frozen 0
        have f1 := HR9.out.frozen 1
        have f2 := HR9.out.frozen 2
        have f3 := HR9.out.frozen 3
        have f4 := HR9.out.frozen 4
        have HGF := Lib.hid (show GiftR (fun b => w.heap.size + 6 ≤ b) w9 (giftV gh (slV Ab2 S2.length cab2) (slV Aw2 T2.length caw2) gh (slV Ak2 M2.length cak2)) (spX p 5 lb ⟨gh, S, T, gkh, M⟩ ⟨oh, S1, T1, okh, M1⟩ ⟨xh, S2, T2, xkh, M2⟩) from copy_read HO9.out (by omega))
        have HFL := Lib.hid (HR9.out.fill gh (slV Ab2 S2.length cab2) (slV Aw2 T2.length caw2) gh (slV Ak2 M2.length cak2))
        go_wp2_with fail
        refine bodyPost_ret (results_gift3 rfl _ _ (w.heap.size + 1 + 1 + 1 + 1 + 1) rfl HFL.out) rfl ?_
        exact spoil_end _ rfl HB9.out HGF.out _ _ _ _ _
    · have E := Lib.hid (sp_h (lb := lb) (O := O) (X := X) hck hgl)
      rw [E.out.1, E.out.2.1, E.out.2.2]
      rw [hck] at HCK
      obtain ⟨gh, S, T, gkh, M⟩ := G
      obtain ⟨oh, S1, T1, okh, M1⟩ := O
      obtain ⟨xh, S2, T2, xkh, M2⟩ := X
      simp only at *
      have t1 : (gh != lh) = true := by simp [hgl]
      clear hck hgl E
      go_enter Tryd.func21, Tryd.ntmps21
      go_wp2_with fail
      refine gen_calls fun w1 hw1 => ?_
      have hb1 : Below w.heap.size w w1 := by rw [hw1]; exact bl_alloc _ (bl_alloc _ (bl_alloc _ (bl_alloc _ (bl_alloc _ (below_alloc _ _)))))
      have hP : PlanCell w1 w.heap.size p n h := by rw [hw1]; exact (((((PlanCell.new _ _ _ rfl).alloc _).alloc _).alloc _).alloc _).alloc _
      have hL : LieCell w1 (w.heap.size + 1) lh lk lb := by rw [hw1]; exact ((((LieCell.new _ _ _ (by simp)).below (below_alloc _ _)).below (below_alloc _ _)).below (below_alloc _ _)).below (below_alloc _ _)
      have hG : GiftCell w1 (w.heap.size + 1 + 1) gh (slV A S.length ca) (slV B T.length cb) gkh (slV C M.length cc) := by rw [hw1]; exact (((GiftCell.new _ _ _ _ _ (by simp)).alloc _).alloc _).alloc _
      have hO : GiftCell w1 (w.heap.size + 1 + 1 + 1) oh (slV A1 S1.length ca1) (slV B1 T1.length cb1) okh (slV C1 M1.length cc1) := by rw [hw1]; exact ((GiftCell.new _ _ _ _ _ (by simp)).alloc _).alloc _
      have hX : GiftCell w1 (w.heap.size + 1 + 1 + 1 + 1) xh (slV A2 S2.length ca2) (slV B2 T2.length cb2) xkh (slV C2 M2.length cc2) := by rw [hw1]; exact (GiftCell.new _ _ _ _ _ (by simp)).alloc _
      have hR : GiftCell w1 (w.heap.size + 1 + 1 + 1 + 1 + 1) 0 (.slice none 0 0) (.slice none 0 0) 0 (.slice none 0 0) := by rw [hw1]; exact GiftCell.new _ _ _ _ _ (by simp)
      have hz1 : w1.heap.size = w.heap.size + 6 := by rw [hw1]; simp
      clear hw1
      refine ret_below (HCK.out _ hb1) fun w2 hb2 => ?_
      have hz2 : w.heap.size + 6 ≤ w2.heap.size := by have := hb2.size; omega
      have HP := Lib.hid (hP.below hb2)
      have HL := Lib.hid (hL.below hb2)
      have HG := Lib.hid (hG.below hb2)
      have HO := Lib.hid (hO.below hb2)
      have HX := Lib.hid (hX.below hb2)
      have HR := Lib.hid (hR.below hb2)
      have HB := Lib.hid (below_trans hb1 hb2)
      clear hP hL hG hO hX hR hb1 hb2 HCK hz1
      have g0 := HG.out.c0
      have l0 := HL.out.c0
      have r0 := HR.out.c0
      have r1 := HR.out.c1
      have r2 := HR.out.c2
      have r3 := HR.out.c3
      have r4 := HR.out.c4
      have f0 := HR.out.frozen 0
      have f1 := HR.out.frozen 1
      have f2 := HR.out.frozen 2
      have f3 := HR.out.frozen 3
      have f4 := HR.out.frozen 4
      go_wp2_with fail
      refine bodyPost_ret (results_gift3 rfl _ _ (w.heap.size + 1 + 1 + 1 + 1 + 1) rfl (HR.out.fill 0 (.slice none 0 0) (.slice none 0 0) 0 (.slice none 0 0))) rfl ?_
      exact spoil_end _ rfl HB.out (zero_gift _ _) _ _ _ _ _
  · have E := Lib.hid (sp_chk (G := G) (lb := lb) (O := O) (X := X) hck)
    rw [E.out.1, E.out.2.1, E.out.2.2]
    have t1 : (chkE p n h lh lk != 0) = true := by simp [hck]
    obtain ⟨gh, S, T, gkh, M⟩ := G
    obtain ⟨oh, S1, T1, okh, M1⟩ := O
    obtain ⟨xh, S2, T2, xkh, M2⟩ := X
    simp only at *
    generalize chkE p n h lh lk = ck at *
    clear hck E
    go_enter Tryd.func21, Tryd.ntmps21
    go_wp2_with fail
    refine gen_calls fun w1 hw1 => ?_
    have hb1 : Below w.heap.size w w1 := by rw [hw1]; exact bl_alloc _ (bl_alloc _ (bl_alloc _ (bl_alloc _ (bl_alloc _ (below_alloc _ _)))))
    have hP : PlanCell w1 w.heap.size p n h := by rw [hw1]; exact (((((PlanCell.new _ _ _ rfl).alloc _).alloc _).alloc _).alloc _).alloc _
    have hL : LieCell w1 (w.heap.size + 1) lh lk lb := by rw [hw1]; exact ((((LieCell.new _ _ _ (by simp)).below (below_alloc _ _)).below (below_alloc _ _)).below (below_alloc _ _)).below (below_alloc _ _)
    have hG : GiftCell w1 (w.heap.size + 1 + 1) gh (slV A S.length ca) (slV B T.length cb) gkh (slV C M.length cc) := by rw [hw1]; exact (((GiftCell.new _ _ _ _ _ (by simp)).alloc _).alloc _).alloc _
    have hO : GiftCell w1 (w.heap.size + 1 + 1 + 1) oh (slV A1 S1.length ca1) (slV B1 T1.length cb1) okh (slV C1 M1.length cc1) := by rw [hw1]; exact ((GiftCell.new _ _ _ _ _ (by simp)).alloc _).alloc _
    have hX : GiftCell w1 (w.heap.size + 1 + 1 + 1 + 1) xh (slV A2 S2.length ca2) (slV B2 T2.length cb2) xkh (slV C2 M2.length cc2) := by rw [hw1]; exact (GiftCell.new _ _ _ _ _ (by simp)).alloc _
    have hR : GiftCell w1 (w.heap.size + 1 + 1 + 1 + 1 + 1) 0 (.slice none 0 0) (.slice none 0 0) 0 (.slice none 0 0) := by rw [hw1]; exact GiftCell.new _ _ _ _ _ (by simp)
    have hz1 : w1.heap.size = w.heap.size + 6 := by rw [hw1]; simp
    clear hw1
    refine ret_below (HCK.out _ hb1) fun w2 hb2 => ?_
    have hz2 : w.heap.size + 6 ≤ w2.heap.size := by have := hb2.size; omega
    have HP := Lib.hid (hP.below hb2)
    have HL := Lib.hid (hL.below hb2)
    have HG := Lib.hid (hG.below hb2)
    have HO := Lib.hid (hO.below hb2)
    have HX := Lib.hid (hX.below hb2)
    have HR := Lib.hid (hR.below hb2)
    have HB := Lib.hid (below_trans hb1 hb2)
    clear hP hL hG hO hX hR hb1 hb2 HCK hz1
    have r0 := HR.out.c0
    have r1 := HR.out.c1
    have r2 := HR.out.c2
    have r3 := HR.out.c3
    have r4 := HR.out.c4
    have f0 := HR.out.frozen 0
    have f1 := HR.out.frozen 1
    have f2 := HR.out.frozen 2
    have f3 := HR.out.frozen 3
    have f4 := HR.out.frozen 4
    go_wp2_with fail
    refine bodyPost_ret (results_gift3 rfl _ _ (w.heap.size + 1 + 1 + 1 + 1 + 1) rfl (HR.out.fill 0 (.slice none 0 0) (.slice none 0 0) 0 (.slice none 0 0))) rfl ?_
    exact spoil_end _ rfl HB.out (zero_gift _ _) _ _ _ _ _
end Go.Proofs.YtjckpammcgeloaaDoor
namespace Go.Proofs.YtjckpammcgeloaaDoor
open Go.RowKit

theorem gift_parts {W : World} {b1 b2 b3 B : Nat} {bv wv kv : Value} {H1 H2 : List HV} {S T : List Shr} {L : List Int} (h kh : Int) (h1 : RowsI W b1 bv H1 S) (h2 : RowsI W b2 wv H2 T) (h3 : W.ownsRow b3 3 1 kv L.length (valsI L)) (l1 : B ≤ b1) (l2 : B ≤ b2) (l3 : B ≤ b3) :
    GiftR (fun b => B ≤ b) W (giftV h bv wv kh kv) ⟨h, S, T, kh, L⟩ := by
  obtain ⟨A, ca, rfl, q1⟩ := h1.read
  obtain ⟨B', cb, rfl, q2⟩ := h2.read
  obtain ⟨C, cc, rfl, q3, q4, q5⟩ := own_ints h3 rfl
  exact ⟨A, ca, B', cb, C, cc, rfl, q1.mono (fun b _ hb => Nat.le_trans l1 hb), q2.mono (fun b _ hb => Nat.le_trans l2 hb), q3, q4, fun b off e => .inr (Nat.le_trans l3 (q5 b off e).1)⟩
theorem gift_mix {W : World} {b1 b3 B : Nat} {A C : Option Addr} {c d : Nat} {kv : Value} {S T : List Shr} {L : List Int} (h kh : Int) (h1 : ShP (fun b => b1 ≤ b) W A c S) (h2 : ShP (fun b => b1 ≤ b) W C d T) (h3 : W.ownsRow b3 3 1 kv L.length (valsI L)) (l1 : B ≤ b1) (l3 : B ≤ b3) :
    GiftR (fun b => B ≤ b) W (giftV h (slV A S.length c) (slV C T.length d) kh kv) ⟨h, S, T, kh, L⟩ := by
  obtain ⟨D, dc, rfl, q3, q4, q5⟩ := own_ints h3 rfl
  exact ⟨A, c, C, d, D, dc, rfl, h1.mono (fun b _ hb => Nat.le_trans l1 hb), h2.mono (fun b _ hb => Nat.le_trans l1 hb), q3, q4, fun b off e => .inr (Nat.le_trans l3 (q5 b off e).1)⟩
theorem gift_mix2 {W : World} {b1 B : Nat} {A C D : Option Addr} {c d e n m : Nat} {S T : List Shr} {L : List Int} (h kh : Int) (h1 : ShP (fun b => b1 ≤ b) W A c S) (h2 : ShP (fun b => b1 ≤ b) W C d T) (h3 : IntsP (fun b => b1 ≤ b) W D e L) (hn : n = S.length) (hm : m = T.length) (l1 : B ≤ b1) :
    GiftR (fun b => B ≤ b) W (giftV h (slV A n c) (slV C m d) kh (slV D L.length e)) ⟨h, S, T, kh, L⟩ := by
  subst hn; subst hm
  exact ⟨A, c, C, d, D, e, rfl, h1.mono (fun b _ hb => Nat.le_trans l1 hb), h2.mono (fun b _ hb => Nat.le_trans l1 hb), h3.mono (fun b _ hb => Nat.le_trans l1 hb)⟩
/-- A literal of one share of the own. -/
theorem lit_rows {w : World} {base c : Nat} {x : Int} {C : Option Addr} {L : List Int} (hk : w.ownsRow base 3 1 (slV C L.length c) L.length (valsI L)) (hb : base ≤ w.heap.size) :
    RowsI (w.alloc (.cells #[.int .i64 x, slV C L.length c] 35)) base (.slice (some ⟨w.heap.size, 0, none⟩) 1 1) [(x, slV C L.length c)] [(x, L)] := by
  have h0 : ∀ i, i < [(x, L)].length → i = 0 := fun i hi => by simp at hi; omega
  refine ⟨⟨rfl, .inr ⟨w.heap.size, 1, #[.int .i64 x, slV C L.length c], rfl, hb, heap_alloc_new w _, Nat.le_refl _, by unfold maxLen; omega, rfl, rfl⟩⟩, rfl, fun k hk' => ?_, fun k hk' => ?_, fun i j hi hj hij => ?_, fun i hi b e1 e2 => ?_⟩
  · rw [h0 k hk']; rfl
  · rw [h0 k hk']; exact own_below hk (below_alloc _ _)
  · exact absurd ((h0 i hi).trans (h0 j hj).symm) hij
  · rw [h0 i hi] at e1
    have h1 := (World.ownsRow.lt hk b e1).2
    have : w.heap.size = b := Option.some.inj (show some w.heap.size = some b from e2)
    omega
theorem st_gb {w : World} {x : Nat} {h kh : Int} {b v kv : Value} (H : GiftCell w x h b v kh kv) (A : Option Addr) (n c : Nat) : (Instr.storeAt 33 (.pointer (some ⟨x, 1, none⟩)) (slV A n c)).run Tryd.prog w = .ok () (w.setCell ⟨x, 1, none⟩ (slV A n c)) := by
  have h0 := H.c1
  have f0 := H.frozen 1
  go_simp
theorem st_gw {w : World} {x : Nat} {h kh : Int} {b v kv : Value} (H : GiftCell w x h b v kh kv) (A : Option Addr) (n c : Nat) : (Instr.storeAt 33 (.pointer (some ⟨x, 2, none⟩)) (slV A n c)).run Tryd.prog w = .ok () (w.setCell ⟨x, 2, none⟩ (slV A n c)) := by
  have h0 := H.c2
  have f0 := H.frozen 2
  go_simp
theorem st_gk {w : World} {x : Nat} {h kh : Int} {b v kv : Value} (H : GiftCell w x h b v kh kv) (y : Int) (A : Option Addr) (n c : Nat) : (Instr.storeAt 35 (.pointer (some ⟨x, 3, none⟩)) (shV y (slV A n c))).run Tryd.prog w = .ok () ((w.setCell ⟨x, 3, none⟩ (.int .i64 y)).setCell ⟨x, 4, none⟩ (slV A n c)) := by
  have h0 := H.c3
  have f0 := H.frozen 3
  have h1 := H.c4
  have f1 := H.frozen 4
  go_simp
theorem GiftCell.set34 {w : World} {x : Nat} {h kh : Int} {b v kv : Value} (H : GiftCell w x h b v kh kv) (y : Int) (u : Value) : GiftCell ((w.setCell ⟨x, 3, none⟩ (.int .i64 y)).setCell ⟨x, 4, none⟩ u) x h b v y u := by unfold GiftCell at H ⊢; simp [World.setCell, Array.getElem?_modify, H]
theorem enter_named (args : Array Value) (w : World) : (callFunc 49 args).run Tryd.prog w = .ok (.enter 49 args) w :=
  Go.MuLone.run_callFunc_enter Tryd.func49 (by kernel_rfl) rfl args w
/-- A list of shares that a call has made. -/
def ShNw (B : Nat) (w : World) (v : Value) (S : List Shr) : Prop := ∃ A c, v = slV A S.length c ∧ ShP (fun b => B ≤ b) w A c S
theorem ShNw.sav {B : Nat} {X : Nat → Prop} {w w' : World} {v : Value} {S : List Shr} (h : ShNw B w v S) (hs : Sav X w w') (hX : ∀ b, B ≤ b → ¬ X b) : ShNw B w' v S := by
  obtain ⟨A, c, e, h1⟩ := h; exact ⟨A, c, e, h1.keep (hs.kept hX)⟩
theorem ShNw.of_copy {B : Nat} {w w' : World} {v : Value} {H : List HV} {S : List Shr} (hR : RowsI w' w.heap.size v H S) (hB : B ≤ w.heap.size) : ShNw B w' v S := by
  obtain ⟨A, c, e, h1⟩ := hR.read; exact ⟨A, c, e, h1.mono (fun b _ hb => Nat.le_trans hB hb)⟩
theorem nfC {b : Bool} {A : Prop} (h : b = false) (h2 : b = true) : A := by rw [h] at h2; cases h2

/-- The region that takes what was before, under way. -/
structure OldI (W0 : World) (gx ox : Nat) (gh gkh : Int) (ob ow kv : Value) (A : Option Addr) (ca : Nat) (S : List Shr) (B : Option Addr) (cb : Nat) (T : List Shr) (V : Nat → Value) (Ld : Nat → Bool) (w : World) : Prop where
  sv : Sav (fun b => b = gx) W0 w
  v0 : Ld 0 = true → V 0 = .pointer (some ⟨ox, 1, none⟩)
  v1 : Ld 1 = true → V 1 = slV A S.length ca
  v2 : Ld 2 = true → ShNw W0.heap.size w (V 2) S
  v3 : Ld 3 = true → V 3 = .pointer (some ⟨ox, 2, none⟩)
  v4 : Ld 4 = true → V 4 = slV B T.length cb
  v5 : Ld 5 = true → ShNw W0.heap.size w (V 5) T
  v6 : Ld 6 = true → V 6 = .pointer (some ⟨gx, 1, none⟩)
  v8 : Ld 8 = true → V 8 = .pointer (some ⟨gx, 2, none⟩)
  d7 : Ld 7 = true → Ld 2 = true
  d9 : Ld 9 = true → Ld 5 = true
  rc : GiftCell w gx gh (cond (Ld 7) (V 2) ob) (cond (Ld 9) (V 5) ow) gkh kv
theorem cond_f {b : Bool} {x y : Value} (h : b = false) : cond b x y = y := by rw [h]; rfl
theorem cond_t {b : Bool} {x y : Value} (h : b = true) : cond b x y = x := by rw [h]; rfl
section
variable {W0 : World} {gx ox : Nat} {gh gkh : Int} {ob ow kv : Value} {A : Option Addr} {ca : Nat} {S : List Shr} {B : Option Addr} {cb : Nat} {T : List Shr} {V : Nat → Value} {Ld : Nat → Bool} {w w' : World}
theorem OldI.move (h : OldI W0 gx ox gh gkh ob ow kv A ca S B cb T V Ld w) (hb : Below w.heap.size w w') : OldI W0 gx ox gh gkh ob ow kv A ca S B cb T V Ld w' := { h with
  sv := h.sv.trans (Sav.of_below hb)
  v2 := fun e => (h.v2 e).sav (X := fun _ => False) (Sav.of_below hb) (fun _ _ => id)
  v5 := fun e => (h.v5 e).sav (X := fun _ => False) (Sav.of_below hb) (fun _ _ => id)
  rc := h.rc.below hb }
theorem OldI.o2 (h : OldI W0 gx ox gh gkh ob ow kv A ca S B cb T V Ld w) (hL : Ld 2 = false) {v : Value} (hb : Below w.heap.size w w') (hv : ShNw W0.heap.size w' v S) : OldI W0 gx ox gh gkh ob ow kv A ca S B cb T (updV V 2 v) (upd Ld 2) w' := { h.move hb with
  v2 := fun _ => hv
  d7 := fun _ => rfl
  rc := by
    have h7 : Ld 7 = false := by
      cases hq : Ld 7 with
      | false => rfl
      | true => exact nfC hL (h.d7 hq)
    have := (h.move hb).rc
    rw [cond_f h7] at this
    show GiftCell w' gx gh (cond (Ld 7) v ob) (cond (Ld 9) (V 5) ow) gkh kv
    rw [cond_f h7]; exact this }
theorem OldI.o5 (h : OldI W0 gx ox gh gkh ob ow kv A ca S B cb T V Ld w) (hL : Ld 5 = false) {v : Value} (hb : Below w.heap.size w w') (hv : ShNw W0.heap.size w' v T) : OldI W0 gx ox gh gkh ob ow kv A ca S B cb T (updV V 5 v) (upd Ld 5) w' := { h.move hb with
  v5 := fun _ => hv
  d9 := fun _ => rfl
  rc := by
    have h9 : Ld 9 = false := by
      cases hq : Ld 9 with
      | false => rfl
      | true => exact nfC hL (h.d9 hq)
    have := (h.move hb).rc
    rw [cond_f h9] at this
    show GiftCell w' gx gh (cond (Ld 7) (V 2) ob) (cond (Ld 9) v ow) gkh kv
    rw [cond_f h9]; exact this }
theorem OldI.o7 (h : OldI W0 gx ox gh gkh ob ow kv A ca S B cb T V Ld w) (h2 : Ld 2 = true) (hgx : gx < W0.heap.size) : ∃ w', (Instr.storeAt 33 (.pointer (some ⟨gx, 1, none⟩)) (V 2)).run Tryd.prog w = .ok () w' ∧ OldI W0 gx ox gh gkh ob ow kv A ca S B cb T (updV V 7 undef) (upd Ld 7) w' := by
  obtain ⟨D, c, e, -⟩ := h.v2 h2
  have hs : Sav (fun b => b = gx) w (w.setCell ⟨gx, 1, none⟩ (V 2)) := Sav.set (X := fun b => b = gx) _ ⟨gx, 1, none⟩ _ rfl
  refine ⟨w.setCell ⟨gx, 1, none⟩ (V 2), by rw [e]; exact st_gb h.rc D _ _, ?_⟩
  exact { h with
    sv := h.sv.trans hs
    v2 := fun e => (h.v2 e).sav hs (fun b hb e => by omega)
    v5 := fun e => (h.v5 e).sav hs (fun b hb e => by omega)
    d7 := fun _ => h2
    rc := h.rc.set1 (V 2) }
theorem OldI.o9 (h : OldI W0 gx ox gh gkh ob ow kv A ca S B cb T V Ld w) (h2 : Ld 5 = true) (hgx : gx < W0.heap.size) : ∃ w', (Instr.storeAt 33 (.pointer (some ⟨gx, 2, none⟩)) (V 5)).run Tryd.prog w = .ok () w' ∧ OldI W0 gx ox gh gkh ob ow kv A ca S B cb T (updV V 9 undef) (upd Ld 9) w' := by
  obtain ⟨D, c, e, -⟩ := h.v5 h2
  have hs : Sav (fun b => b = gx) w (w.setCell ⟨gx, 2, none⟩ (V 5)) := Sav.set (X := fun b => b = gx) _ ⟨gx, 2, none⟩ _ rfl
  refine ⟨w.setCell ⟨gx, 2, none⟩ (V 5), by rw [e]; exact st_gw h.rc D _ _, ?_⟩
  exact { h with
    sv := h.sv.trans hs
    v2 := fun e => (h.v2 e).sav hs (fun b hb e => by omega)
    v5 := fun e => (h.v5 e).sav hs (fun b hb e => by omega)
    d9 := fun _ => h2
    rc := h.rc.set2 (V 5) }
end

/-- The region that takes what another one has, under way. -/
structure OthI (W0 : World) (gx ox : Nat) (gh gkh : Int) (ob ow kv : Value) (A : Option Addr) (ca : Nat) (S : List Shr) (B : Option Addr) (cb : Nat) (T : List Shr) (xk : Int) (C : Option Addr) (cc : Nat) (M : List Int) (V : Nat → Value) (Ld : Nat → Bool) (w : World) : Prop where
  sv : Sav (fun b => b = gx) W0 w
  v0 : Ld 0 = true → V 0 = .pointer (some ⟨ox, 1, none⟩)
  v1 : Ld 1 = true → V 1 = slV A S.length ca
  v2 : Ld 2 = true → V 2 = .pointer (some ⟨gx, 0, none⟩)
  v3 : Ld 3 = true → V 3 = .int .i64 gh
  v4 : Ld 4 = true → ShNw W0.heap.size w (V 4) (S.map (nameS gh))
  v5 : Ld 5 = true → V 5 = .pointer (some ⟨ox, 2, none⟩)
  v6 : Ld 6 = true → V 6 = slV B T.length cb
  v7 : Ld 7 = true → V 7 = .pointer (some ⟨gx, 0, none⟩)
  v8 : Ld 8 = true → V 8 = .int .i64 gh
  v9 : Ld 9 = true → ShNw W0.heap.size w (V 9) (T.map (nameS gh))
  v10 : Ld 10 = true → V 10 = .pointer (some ⟨ox, 3, none⟩)
  v11 : Ld 11 = true → V 11 = shV xk (slV C M.length cc)
  v12 : Ld 12 = true → ∃ g, V 12 = .slice (some ⟨g, 0, none⟩) 1 1 ∧ ShP (· ≠ gx) w (some ⟨g, 0, none⟩) 1 [(xk, M)]
  v13 : Ld 13 = true → V 13 = .pointer (some ⟨gx, 0, none⟩)
  v14 : Ld 14 = true → V 14 = .int .i64 gh
  v15 : Ld 15 = true → ∃ Hk, RowsI w W0.heap.size (V 15) Hk [(gh, M)]
  v16 : Ld 16 = true → Ld 15 = true ∧ ∃ g c, V 15 = .slice (some ⟨g, 0, none⟩) 1 c ∧ V 16 = .pointer (some ⟨g, 0, none⟩)
  v17 : Ld 17 = true → ∃ D c, V 17 = shV gh (slV D M.length c) ∧ IntsP (fun b => W0.heap.size ≤ b) w D c M
  v18 : Ld 18 = true → V 18 = .pointer (some ⟨gx, 1, none⟩)
  v20 : Ld 20 = true → V 20 = .pointer (some ⟨gx, 2, none⟩)
  v22 : Ld 22 = true → V 22 = .pointer (some ⟨gx, 3, none⟩)
  d19 : Ld 19 = true → Ld 4 = true
  d21 : Ld 21 = true → Ld 9 = true
  d23 : Ld 23 = true → Ld 17 = true
  rc0 : Ld 23 = false → GiftCell w gx gh (cond (Ld 19) (V 4) ob) (cond (Ld 21) (V 9) ow) gkh kv
  rc1 : Ld 23 = true → ∃ D c, V 17 = shV gh (slV D M.length c) ∧ GiftCell w gx gh (cond (Ld 19) (V 4) ob) (cond (Ld 21) (V 9) ow) gh (slV D M.length c)
section
variable {W0 : World} {gx ox : Nat} {gh gkh : Int} {ob ow kv : Value} {A : Option Addr} {ca : Nat} {S : List Shr} {B : Option Addr} {cb : Nat} {T : List Shr} {xk : Int} {C : Option Addr} {cc : Nat} {M : List Int} {V : Nat → Value} {Ld : Nat → Bool} {w w' : World}
theorem OthI.cell (h : OthI W0 gx ox gh gkh ob ow kv A ca S B cb T xk C cc M V Ld w) : ∃ k2 u2, GiftCell w gx gh (cond (Ld 19) (V 4) ob) (cond (Ld 21) (V 9) ow) k2 u2 := by
  cases hq : Ld 23 with
  | false => exact ⟨_, _, h.rc0 hq⟩
  | true => obtain ⟨D, c, -, e⟩ := h.rc1 hq; exact ⟨_, _, e⟩
theorem OthI.move (h : OthI W0 gx ox gh gkh ob ow kv A ca S B cb T xk C cc M V Ld w) (hb : Below w.heap.size w w') : OthI W0 gx ox gh gkh ob ow kv A ca S B cb T xk C cc M V Ld w' := { h with
  sv := h.sv.trans (Sav.of_below hb)
  v4 := fun e => (h.v4 e).sav (X := fun _ => False) (Sav.of_below hb) (fun _ _ => id)
  v9 := fun e => (h.v9 e).sav (X := fun _ => False) (Sav.of_below hb) (fun _ _ => id)
  v12 := fun e => by obtain ⟨g, e1, e2⟩ := h.v12 e; exact ⟨g, e1, e2.below hb⟩
  v15 := fun e => by obtain ⟨Hk, e1⟩ := h.v15 e; exact ⟨Hk, e1.below hb⟩
  v17 := fun e => by obtain ⟨D, c, e1, e2⟩ := h.v17 e; exact ⟨D, c, e1, e2.keep (Kept.below hb)⟩
  rc0 := fun e => (h.rc0 e).below hb
  rc1 := fun e => by obtain ⟨D, c, e1, e2⟩ := h.rc1 e; exact ⟨D, c, e1, e2.below hb⟩ }
theorem OthI.o4 (h : OthI W0 gx ox gh gkh ob ow kv A ca S B cb T xk C cc M V Ld w) (hL : Ld 4 = false) {v : Value} (hb : Below w.heap.size w w') (hv : ShNw W0.heap.size w' v (S.map (nameS gh))) : OthI W0 gx ox gh gkh ob ow kv A ca S B cb T xk C cc M (updV V 4 v) (upd Ld 4) w' := by
  have h7 : Ld 19 = false := by
    cases hq : Ld 19 with
    | false => rfl
    | true => exact nfC hL (h.d19 hq)
  have hm := h.move hb
  exact { hm with
  v4 := fun _ => hv
  d19 := fun _ => rfl
  rc0 := fun e => by
    have := hm.rc0 e
    rw [cond_f h7] at this
    show GiftCell w' gx gh (cond (Ld 19) v ob) (cond (Ld 21) (V 9) ow) gkh kv
    rw [cond_f h7]; exact this
  rc1 := fun e => by
    obtain ⟨D, c, e1, this⟩ := hm.rc1 e
    rw [cond_f h7] at this
    refine ⟨D, c, e1, ?_⟩
    show GiftCell w' gx gh (cond (Ld 19) v ob) (cond (Ld 21) (V 9) ow) gh (slV D M.length c)
    rw [cond_f h7]; exact this }
theorem OthI.o9 (h : OthI W0 gx ox gh gkh ob ow kv A ca S B cb T xk C cc M V Ld w) (hL : Ld 9 = false) {v : Value} (hb : Below w.heap.size w w') (hv : ShNw W0.heap.size w' v (T.map (nameS gh))) : OthI W0 gx ox gh gkh ob ow kv A ca S B cb T xk C cc M (updV V 9 v) (upd Ld 9) w' := by
  have h7 : Ld 21 = false := by
    cases hq : Ld 21 with
    | false => rfl
    | true => exact nfC hL (h.d21 hq)
  have hm := h.move hb
  exact { hm with
  v9 := fun _ => hv
  d21 := fun _ => rfl
  rc0 := fun e => by
    have := hm.rc0 e
    rw [cond_f h7] at this
    show GiftCell w' gx gh (cond (Ld 19) (V 4) ob) (cond (Ld 21) v ow) gkh kv
    rw [cond_f h7]; exact this
  rc1 := fun e => by
    obtain ⟨D, c, e1, this⟩ := hm.rc1 e
    rw [cond_f h7] at this
    refine ⟨D, c, e1, ?_⟩
    show GiftCell w' gx gh (cond (Ld 19) (V 4) ob) (cond (Ld 21) v ow) gh (slV D M.length c)
    rw [cond_f h7]; exact this }
theorem OthI.o19 (h : OthI W0 gx ox gh gkh ob ow kv A ca S B cb T xk C cc M V Ld w) (h2 : Ld 4 = true) (hgx : gx < W0.heap.size) : ∃ w', (Instr.storeAt 33 (.pointer (some ⟨gx, 1, none⟩)) (V 4)).run Tryd.prog w = .ok () w' ∧ OthI W0 gx ox gh gkh ob ow kv A ca S B cb T xk C cc M (updV V 19 undef) (upd Ld 19) w' := by
  obtain ⟨D, c, e, -⟩ := h.v4 h2
  obtain ⟨k2, u2, hc⟩ := h.cell
  have hs : Sav (fun b => b = gx) w (w.setCell ⟨gx, 1, none⟩ (V 4)) := Sav.set (X := fun b => b = gx) _ ⟨gx, 1, none⟩ _ rfl
  refine ⟨w.setCell ⟨gx, 1, none⟩ (V 4), by rw [e]; exact st_gb hc D _ _, ?_⟩
  exact { h with
    sv := h.sv.trans hs
    v4 := fun e => (h.v4 e).sav hs (fun b hb e => by omega)
    v9 := fun e => (h.v9 e).sav hs (fun b hb e => by omega)
    v12 := fun e => by obtain ⟨g, e1, e2⟩ := h.v12 e; exact ⟨g, e1, e2.keep (hs.kept fun b hb => hb)⟩
    v15 := fun e => by obtain ⟨Hk, e1⟩ := h.v15 e; exact ⟨Hk, e1.sav hs (fun x hx e => by have := (e1.blk hx).1; omega)⟩
    v17 := fun e => by obtain ⟨D', c', e1, e2⟩ := h.v17 e; exact ⟨D', c', e1, e2.keep (hs.kept fun b hb e => by omega)⟩
    d19 := fun _ => h2
    rc0 := fun e => (h.rc0 e).set1 (V 4)
    rc1 := fun e => by obtain ⟨D', c', e1, e2⟩ := h.rc1 e; exact ⟨D', c', e1, e2.set1 (V 4)⟩ }
theorem OthI.o21 (h : OthI W0 gx ox gh gkh ob ow kv A ca S B cb T xk C cc M V Ld w) (h2 : Ld 9 = true) (hgx : gx < W0.heap.size) : ∃ w', (Instr.storeAt 33 (.pointer (some ⟨gx, 2, none⟩)) (V 9)).run Tryd.prog w = .ok () w' ∧ OthI W0 gx ox gh gkh ob ow kv A ca S B cb T xk C cc M (updV V 21 undef) (upd Ld 21) w' := by
  obtain ⟨D, c, e, -⟩ := h.v9 h2
  obtain ⟨k2, u2, hc⟩ := h.cell
  have hs : Sav (fun b => b = gx) w (w.setCell ⟨gx, 2, none⟩ (V 9)) := Sav.set (X := fun b => b = gx) _ ⟨gx, 2, none⟩ _ rfl
  refine ⟨w.setCell ⟨gx, 2, none⟩ (V 9), by rw [e]; exact st_gw hc D _ _, ?_⟩
  exact { h with
    sv := h.sv.trans hs
    v4 := fun e => (h.v4 e).sav hs (fun b hb e => by omega)
    v9 := fun e => (h.v9 e).sav hs (fun b hb e => by omega)
    v12 := fun e => by obtain ⟨g, e1, e2⟩ := h.v12 e; exact ⟨g, e1, e2.keep (hs.kept fun b hb => hb)⟩
    v15 := fun e => by obtain ⟨Hk, e1⟩ := h.v15 e; exact ⟨Hk, e1.sav hs (fun x hx e => by have := (e1.blk hx).1; omega)⟩
    v17 := fun e => by obtain ⟨D', c', e1, e2⟩ := h.v17 e; exact ⟨D', c', e1, e2.keep (hs.kept fun b hb e => by omega)⟩
    d21 := fun _ => h2
    rc0 := fun e => (h.rc0 e).set2 (V 9)
    rc1 := fun e => by obtain ⟨D', c', e1, e2⟩ := h.rc1 e; exact ⟨D', c', e1, e2.set2 (V 9)⟩ }
theorem OthI.o23 (h : OthI W0 gx ox gh gkh ob ow kv A ca S B cb T xk C cc M V Ld w) (h2 : Ld 17 = true) (hgx : gx < W0.heap.size) : ∃ w', (Instr.storeAt 35 (.pointer (some ⟨gx, 3, none⟩)) (V 17)).run Tryd.prog w = .ok () w' ∧ OthI W0 gx ox gh gkh ob ow kv A ca S B cb T xk C cc M (updV V 23 undef) (upd Ld 23) w' := by
  obtain ⟨D, c, e, hI⟩ := h.v17 h2
  obtain ⟨k2, u2, hc⟩ := h.cell
  have hs : Sav (fun b => b = gx) w ((w.setCell ⟨gx, 3, none⟩ (.int .i64 gh)).setCell ⟨gx, 4, none⟩ (slV D M.length c)) := (Sav.set (X := fun b => b = gx) _ ⟨gx, 3, none⟩ _ rfl).trans (Sav.set (X := fun b => b = gx) _ ⟨gx, 4, none⟩ _ rfl)
  refine ⟨_, by rw [e]; exact st_gk hc gh D _ _, ?_⟩
  exact { h with
    sv := h.sv.trans hs
    v4 := fun e => (h.v4 e).sav hs (fun b hb e => by omega)
    v9 := fun e => (h.v9 e).sav hs (fun b hb e => by omega)
    v12 := fun e => by obtain ⟨g, e1, e2⟩ := h.v12 e; exact ⟨g, e1, e2.keep (hs.kept fun b hb => hb)⟩
    v15 := fun e => by obtain ⟨Hk, e1⟩ := h.v15 e; exact ⟨Hk, e1.sav hs (fun x hx e => by have := (e1.blk hx).1; omega)⟩
    v17 := fun e => by obtain ⟨D', c', e1, e2⟩ := h.v17 e; exact ⟨D', c', e1, e2.keep (hs.kept fun b hb e => by omega)⟩
    d23 := fun _ => h2
    rc0 := fun e => (by cases e)
    rc1 := fun _ => ⟨D, c, e, hc.set34 gh _⟩ }
end
end Go.Proofs.YtjckpammcgeloaaDoor
