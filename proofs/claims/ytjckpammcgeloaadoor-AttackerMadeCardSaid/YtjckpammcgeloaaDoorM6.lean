/-
  Copies of gifts, by the program and by the document.
  Gifts: each value made greater; the first value of a share made greater.
  Gifts: the first value of one share made greater.
  Gifts, the document's: values made greater in place; shares under another name.
  Conditions: those that each theorem names.
-/
import Derived.Test.YtjckpammcgeloaaDoorM5
import Derived.IntWalk
set_option linter.unusedVariables false
set_option linter.unusedSimpArgs false
namespace Go.Proofs.YtjckpammcgeloaaDoor
open Go.RowKit

abbrev slV (A : Option Addr) (n c : Nat) : Value := .slice A n c
section
variable {w : World} {x : Nat} {h kh : Int} {b v kv : Value}
theorem fa_g0 (w : World) (x : Nat) : (Instr.fieldAt 37 (.pointer (some ⟨x, 0, none⟩)) 0).run Tryd.prog w = .ok (.pointer (some ⟨x, 0, none⟩)) w := by go_simp
theorem fa_g1 (w : World) (x : Nat) : (Instr.fieldAt 37 (.pointer (some ⟨x, 0, none⟩)) 1).run Tryd.prog w = .ok (.pointer (some ⟨x, 1, none⟩)) w := by go_simp
theorem fa_g2 (w : World) (x : Nat) : (Instr.fieldAt 37 (.pointer (some ⟨x, 0, none⟩)) 2).run Tryd.prog w = .ok (.pointer (some ⟨x, 2, none⟩)) w := by go_simp
theorem fa_g3 (w : World) (x : Nat) : (Instr.fieldAt 37 (.pointer (some ⟨x, 0, none⟩)) 3).run Tryd.prog w = .ok (.pointer (some ⟨x, 3, none⟩)) w := by go_simp
theorem ld_gh (H : GiftCell w x h b v kh kv) : (Instr.loadAt 3 (.pointer (some ⟨x, 0, none⟩))).run Tryd.prog w = .ok (.int .i64 h) w := by
  have h0 := H.c0
  go_simp
theorem ld_gb (H : GiftCell w x h b v kh kv) : (Instr.loadAt 33 (.pointer (some ⟨x, 1, none⟩))).run Tryd.prog w = .ok b w := by
  have h0 := H.c1
  go_simp
theorem ld_gw (H : GiftCell w x h b v kh kv) : (Instr.loadAt 33 (.pointer (some ⟨x, 2, none⟩))).run Tryd.prog w = .ok v w := by
  have h0 := H.c2
  go_simp
theorem ld_gk (H : GiftCell w x h b v kh kv) : (Instr.loadAt 35 (.pointer (some ⟨x, 3, none⟩))).run Tryd.prog w = .ok (shV kh kv) w := by
  have h0 := H.c3
  have h1 := H.c4
  go_simp
theorem bd_gift (w : World) (h kh : Int) (A B C : Option Addr) (n m l ca cb cc : Nat) : (Instr.build 37 #[(0, .int .i64 h), (1, slV A n ca), (2, slV B m cb), (3, shV kh (slV C l cc))]).run Tryd.prog w = .ok (giftV h (slV A n ca) (slV B m cb) kh (slV C l cc)) w := by
  go_simp
theorem st_gift (H : GiftCell w x h b v kh kv) (h' kh' : Int) (A B C : Option Addr) (n m l ca cb cc : Nat) : (Instr.storeAt 37 (.pointer (some ⟨x, 0, none⟩)) (giftV h' (slV A n ca) (slV B m cb) kh' (slV C l cc))).run Tryd.prog w =
    .ok () (((((w.setCell ⟨x, 0, none⟩ (.int .i64 h')).setCell ⟨x, 1, none⟩ (slV A n ca)).setCell ⟨x, 2, none⟩ (slV B m cb)).setCell ⟨x, 3, none⟩ (.int .i64 kh')).setCell ⟨x, 4, none⟩ (slV C l cc)) := by
  have h0 := H.c0
  have h1 := H.c1
  have h2 := H.c2
  have h3 := H.c3
  have h4 := H.c4
  have f0 := H.frozen 0
  have f1 := H.frozen 1
  have f2 := H.frozen 2
  have f3 := H.frozen 3
  have f4 := H.frozen 4
  go_simp
theorem bs_share (w : World) (kh : Int) (C : Option Addr) (l cc : Nat) : (Instr.buildSlice 33 1 #[(0, shV kh (slV C l cc))]).run Tryd.prog w = .ok (.slice (some ⟨w.heap.size, 0, none⟩) 1 1) (w.alloc (.cells #[.int .i64 kh, slV C l cc] 35)) := by
  go_simp
theorem ia_share0 (w : World) (g c : Nat) : (Instr.indexAt 33 (.slice (some ⟨g, 0, none⟩) 1 c) (.int .i64 0)).run Tryd.prog w = .ok (.pointer (some ⟨g, 0, none⟩)) w := by
  go_simp
theorem ld_share {g : Nat} {y : Int} {u : Value} (h0 : w.cell? ⟨g, 0, none⟩ = some (.int .i64 y)) (h1 : w.cell? ⟨g, 1, none⟩ = some u) : (Instr.loadAt 35 (.pointer (some ⟨g, 0, none⟩))).run Tryd.prog w = .ok (shV y u) w := by
  go_simp
end
theorem enter_refCopy (args : Array Value) (w : World) : (callFunc 48 args).run Tryd.prog w = .ok (.enter 48 args) w :=
  Go.MuLone.run_callFunc_enter Tryd.func48 (by kernel_rfl) rfl args w
theorem sav_set' {X : Nat → Prop} {w w' w'' : World} (h : Sav X w w') (hb : Below w'.heap.size w' w'') : Sav X w w'' := h.trans (Sav.of_below hb)
/-- What a call that copies a gift returns. -/
def CopyG (G : GiftD) (w : World) (e : Ending) (w' : World) : Prop :=
  ∃ bv wv kv Hb Hw, e = .returned (giftV G.h bv wv G.kh kv) ∧ OwnG w' w.heap.size bv wv kv Hb Hw G ∧ Below w.heap.size w w'
theorem RowsI.lower {w : World} {base base' : Nat} {v : Value} {H : List HV} {S : List Shr} (h : RowsI w base v H S) (hb : base' ≤ base) : RowsI w base' v H S :=
  ⟨ownsRow_mono h.out hb, h.len, h.hold, fun k hk => ownsRow_mono (h.row k hk) hb, h.ne, h.no⟩
theorem OwnG.lower {w : World} {base base' : Nat} {bv wv kv : Value} {Hb Hw : List HV} {G : GiftD} (h : OwnG w base bv wv kv Hb Hw G) (hb : base' ≤ base) : OwnG w base' bv wv kv Hb Hw G :=
  ⟨h.sb.lower hb, h.sw.lower hb, ownsRow_mono h.sk hb, h.bw, h.bk, h.wk⟩
theorem row_first {w : World} {base g c : Nat} {H : List HV} {y : Int} {M : List Int} {v : Value} (h : RowsI w base v H [(y, M)]) (hv : v = .slice (some ⟨g, 0, none⟩) 1 c) :
    ∃ D dc, w.cell? ⟨g, 0, none⟩ = some (.int .i64 y) ∧ w.cell? ⟨g, 1, none⟩ = some (slV D M.length dc) ∧ w.ownsRow base 3 1 (slV D M.length dc) M.length (valsI M) ∧ ∀ x, (slV D M.length dc).ownBlock = some x → blkV v H x := by
  have hl : H.length = 1 := h.len
  obtain ⟨g', c', e, -, -, -, -, hcell, -⟩ := h.out.form (by omega)
  rw [hv] at e
  injection e with e
  injection e with e
  injection e with e
  subst e
  obtain ⟨q0, q1⟩ := hcell 0 (by omega)
  have hh := h.hold 0 (by simp)
  have hr := h.row 0 (by simp)
  have hh' : (hvAt H 0).1 = y := hh
  have hr' : w.ownsRow base 3 1 (hvAt H 0).2 M.length (valsI M) := hr
  obtain ⟨D, dc, e2, -⟩ := own_ints hr' rfl
  rw [hh'] at q0
  have hr2 := hr'
  rw [e2] at q1 hr2
  exact ⟨D, dc, q0, q1, hr2, fun x hx => .inr ⟨0, by omega, by rw [e2]; exact hx⟩⟩
theorem own_disj {w : World} {base : Nat} {v v' : Value} {H H' : List HV} {S : List Shr} {B : Nat} (h : RowsI w base v H S) (hb : w.heap.size ≤ B) (h' : ∀ x, blkV v' H' x → B ≤ x) : ∀ x, blkV v H x → blkV v' H' x → False := fun x h1 h2 => by
  have := (h.blk h1).2
  have := h' x h2
  omega

/-- The region of attacker.copied, under way. -/
structure CpI (W0 : World) (gx rx : Nat) (gh kh : Int) (A : Option Addr) (ca : Nat) (S : List Shr) (B : Option Addr) (cb : Nat) (T : List Shr) (C : Option Addr) (cc : Nat) (M : List Int) (Hb Hw : List HV) (V : Nat → Value) (Ld : Nat → Bool) (w : World) : Prop where
  sv : Sav (fun b => b = rx) W0 w
  v0 : Ld 0 = true → V 0 = .pointer (some ⟨gx, 0, none⟩)
  v1 : Ld 1 = true → V 1 = .int .i64 gh
  v2 : Ld 2 = true → V 2 = .pointer (some ⟨gx, 1, none⟩)
  v3 : Ld 3 = true → V 3 = slV A S.length ca
  v5 : Ld 5 = true → V 5 = .pointer (some ⟨gx, 2, none⟩)
  v6 : Ld 6 = true → V 6 = slV B T.length cb
  v8 : Ld 8 = true → V 8 = .pointer (some ⟨gx, 3, none⟩)
  v9 : Ld 9 = true → V 9 = shV kh (slV C M.length cc)
  v4 : Ld 4 = true → RowsI w W0.heap.size (V 4) Hb S
  v7 : Ld 7 = true → RowsI w W0.heap.size (V 7) Hw T
  v10 : Ld 10 = true → ∃ D c, V 10 = shV kh (slV D M.length c) ∧ w.ownsRow W0.heap.size 3 1 (slV D M.length c) M.length (valsI M)
  d1 : Ld 4 = true → Ld 7 = true → ∀ x, blkV (V 4) Hb x → blkV (V 7) Hw x → False
  d2 : Ld 4 = true → Ld 10 = true → ∀ D c x, V 10 = shV kh (slV D M.length c) → blkV (V 4) Hb x → (slV D M.length c).ownBlock = some x → False
  d3 : Ld 7 = true → Ld 10 = true → ∀ D c x, V 10 = shV kh (slV D M.length c) → blkV (V 7) Hw x → (slV D M.length c).ownBlock = some x → False
  v11 : Ld 11 = true → Ld 4 = true ∧ Ld 7 = true ∧ Ld 10 = true ∧ ∃ A' ca' B' cb' D c, V 4 = slV A' S.length ca' ∧ V 7 = slV B' T.length cb' ∧ V 10 = shV kh (slV D M.length c) ∧ V 11 = giftV gh (slV A' S.length ca') (slV B' T.length cb') kh (slV D M.length c)
  rc0 : Ld 12 = false → GiftCell w rx 0 (.slice none 0 0) (.slice none 0 0) 0 (.slice none 0 0)
  rc1 : Ld 12 = true → Ld 11 = true ∧ ∃ A' ca' B' cb' D c, V 11 = giftV gh (slV A' S.length ca') (slV B' T.length cb') kh (slV D M.length c) ∧ GiftCell w rx gh (slV A' S.length ca') (slV B' T.length cb') kh (slV D M.length c)
section
variable {W0 : World} {gx rx : Nat} {gh kh : Int} {A : Option Addr} {ca : Nat} {S : List Shr} {B : Option Addr} {cb : Nat} {T : List Shr} {C : Option Addr} {cc : Nat} {M : List Int} {Hb Hw : List HV} {V : Nat → Value} {Ld : Nat → Bool} {w w' : World}
theorem CpI.start (Hb Hw : List HV) (hrc : GiftCell W0 rx 0 (.slice none 0 0) (.slice none 0 0) 0 (.slice none 0 0)) (V : Nat → Value) : CpI W0 gx rx gh kh A ca S B cb T C cc M Hb Hw V (fun _ => false) W0.drew where
  sv := (Sav.refl _ _).trans (Sav.of_below (Below.refl _ _).drew)
  v0 h := by cases h
  v1 h := by cases h
  v2 h := by cases h
  v3 h := by cases h
  v5 h := by cases h
  v6 h := by cases h
  v8 h := by cases h
  v9 h := by cases h
  v4 h := by cases h
  v7 h := by cases h
  v10 h := by cases h
  d1 h := by cases h
  d2 h := by cases h
  d3 h := by cases h
  v11 h := by cases h
  rc0 _ := hrc
  rc1 h := by cases h
theorem CpI.move (h : CpI W0 gx rx gh kh A ca S B cb T C cc M Hb Hw V Ld w) (hb : Below w.heap.size w w') : CpI W0 gx rx gh kh A ca S B cb T C cc M Hb Hw V Ld w' := { h with
  sv := h.sv.trans (Sav.of_below hb)
  v4 := fun e => (h.v4 e).below hb
  v7 := fun e => (h.v7 e).below hb
  v10 := fun e => by obtain ⟨D, c, e1, e2⟩ := h.v10 e; exact ⟨D, c, e1, own_below e2 hb⟩
  rc0 := fun e => (h.rc0 e).below hb
  rc1 := fun e => by obtain ⟨e0, A', ca', B', cb', D, c, e1, e2⟩ := h.rc1 e; exact ⟨e0, A', ca', B', cb', D, c, e1, e2.below hb⟩ }
theorem nfA {b : Bool} {A : Prop} (h : b = false) (h2 : b = true) : A := by rw [h] at h2; cases h2
theorem shV_inj {k k' : Int} {u v : Value} (h : shV k u = shV k' v) : u = v := by injection h with h; injection h with h; simp only [List.cons.injEq] at h; exact h.2.1
theorem CpI.o4 (h : CpI W0 gx rx gh kh A ca S B cb T C cc M Hb Hw V Ld w) (hL : Ld 4 = false) {v : Value} {H2 : List HV} (hR : RowsI w' W0.heap.size v H2 S) (hN : ∀ x, blkV v H2 x → w.heap.size ≤ x) (hb : Below w.heap.size w w') :
    CpI W0 gx rx gh kh A ca S B cb T C cc M H2 Hw (updV V 4 v) (upd Ld 4) w' := { h.move hb with
  v4 := fun _ => hR
  d1 := fun _ e x hx hy => by have := ((h.v7 e).blk hy).2; have := hN x hx; omega
  d2 := fun _ e D c x e1 hx hy => by obtain ⟨D', c', e2, e3⟩ := h.v10 e; have e1' : V 10 = shV kh (slV D M.length c) := e1; rw [e2] at e1'; have e4 := shV_inj e1'; rw [← e4] at hy; have := (World.ownsRow.lt e3 x hy).2; have := hN x hx; omega
  v11 := fun e => nfA hL (h.v11 e).1 }
theorem CpI.o7 (h : CpI W0 gx rx gh kh A ca S B cb T C cc M Hb Hw V Ld w) (hL : Ld 7 = false) {v : Value} {H2 : List HV} (hR : RowsI w' W0.heap.size v H2 T) (hN : ∀ x, blkV v H2 x → w.heap.size ≤ x) (hb : Below w.heap.size w w') :
    CpI W0 gx rx gh kh A ca S B cb T C cc M Hb H2 (updV V 7 v) (upd Ld 7) w' := { h.move hb with
  v7 := fun _ => hR
  d1 := fun e _ x hx hy => by have := ((h.v4 e).blk hx).2; have := hN x hy; omega
  d3 := fun _ e D c x e1 hx hy => by obtain ⟨D', c', e2, e3⟩ := h.v10 e; have e1' : V 10 = shV kh (slV D M.length c) := e1; rw [e2] at e1'; have e4 := shV_inj e1'; rw [← e4] at hy; have := (World.ownsRow.lt e3 x hy).2; have := hN x hx; omega
  v11 := fun e => nfA hL (h.v11 e).2.1 }
theorem CpI.o10 (h : CpI W0 gx rx gh kh A ca S B cb T C cc M Hb Hw V Ld w) (hL : Ld 10 = false) {D : Option Addr} {c : Nat} (hR : w'.ownsRow w.heap.size 3 1 (slV D M.length c) M.length (valsI M)) (hb : Below w.heap.size w w') :
    CpI W0 gx rx gh kh A ca S B cb T C cc M Hb Hw (updV V 10 (shV kh (slV D M.length c))) (upd Ld 10) w' := { h.move hb with
  v10 := fun _ => ⟨D, c, rfl, ownsRow_mono hR h.sv.size⟩
  d2 := fun e _ D' c' x e1 hx hy => by
    have e2 := shV_inj (show shV kh (slV D M.length c) = shV kh (slV D' M.length c') from e1)
    rw [← e2] at hy
    have := (World.ownsRow.lt hR x hy).1
    have := ((h.v4 e).blk hx).2
    omega
  d3 := fun e _ D' c' x e1 hx hy => by
    have e2 := shV_inj (show shV kh (slV D M.length c) = shV kh (slV D' M.length c') from e1)
    rw [← e2] at hy
    have := (World.ownsRow.lt hR x hy).1
    have := ((h.v7 e).blk hx).2
    omega
  v11 := fun e => nfA hL (h.v11 e).2.2.1 }
theorem CpI.ob (h : CpI W0 gx rx gh kh A ca S B cb T C cc M Hb Hw V Ld w) (h1 : Ld 4 = true) (h2 : Ld 7 = true) (h3 : Ld 10 = true) (hL : Ld 12 = false) : ∃ A' ca' B' cb' D c, V 4 = slV A' S.length ca' ∧ V 7 = slV B' T.length cb' ∧ V 10 = shV kh (slV D M.length c) ∧
    CpI W0 gx rx gh kh A ca S B cb T C cc M Hb Hw (updV V 11 (giftV gh (slV A' S.length ca') (slV B' T.length cb') kh (slV D M.length c))) (upd Ld 11) w := by
  obtain ⟨A', ca', e1⟩ := row_slice (h.v4 h1)
  obtain ⟨B', cb', e2⟩ := row_slice (h.v7 h2)
  obtain ⟨D, c, e3, -⟩ := h.v10 h3
  exact ⟨A', ca', B', cb', D, c, e1, e2, e3, { h with v11 := fun _ => ⟨h1, h2, h3, A', ca', B', cb', D, c, e1, e2, e3, rfl⟩, rc1 := fun e => nfA hL e }⟩
theorem CpI.os (h : CpI W0 gx rx gh kh A ca S B cb T C cc M Hb Hw V Ld w) (hb : Ld 11 = true) (hL : Ld 12 = false) (hrx : rx < W0.heap.size) : ∃ w', (Instr.storeAt 37 (.pointer (some ⟨rx, 0, none⟩)) (V 11)).run Tryd.prog w = .ok () w' ∧ CpI W0 gx rx gh kh A ca S B cb T C cc M Hb Hw (updV V 12 undef) (upd Ld 12) w' := by
  obtain ⟨h1, h2, h3, A', ca', B', cb', D, c, e1, e2, e3, e4⟩ := h.v11 hb
  have hcell := h.rc0 hL
  have hs := sav_fill w rx gh kh (slV A' S.length ca') (slV B' T.length cb') (slV D M.length c)
  refine ⟨_, by rw [e4]; exact st_gift hcell _ _ _ _ _ _ _ _ _ _ _, ?_⟩
  exact { h with
    sv := h.sv.trans hs
    v4 := fun e => (h.v4 e).sav hs (fun x hx hy => by have := ((h.v4 e).blk hx).1; omega)
    v7 := fun e => (h.v7 e).sav hs (fun x hx hy => by have := ((h.v7 e).blk hx).1; omega)
    v10 := fun e => by obtain ⟨D', c', q1, q2⟩ := h.v10 e; exact ⟨D', c', q1, own_sav q2 hs (fun x hx hy => by have := (World.ownsRow.lt q2 x hx).1; omega)⟩
    rc0 := fun e => (by cases e)
    rc1 := fun _ => ⟨hb, A', ca', B', cb', D, c, e4, hcell.fill _ _ _ _ _⟩ }
/-- What the region leaves. -/
theorem CpI.fin (h : CpI W0 gx rx gh kh A ca S B cb T C cc M Hb Hw V Ld w) (hL : ∀ i, i < 13 → Ld i = true) : ∃ bv wv kv, OwnG w W0.heap.size bv wv kv Hb Hw ⟨gh, S, T, kh, M⟩ ∧ GiftCell w rx gh bv wv kh kv ∧ Sav (fun b => b = rx) W0 w := by
  obtain ⟨-, A', ca', B', cb', D, c, e4, hc⟩ := h.rc1 (hL 12 (by decide))
  obtain ⟨h1, h2, h3, A2, ca2, B2, cb2, D2, c2, f1, f2, f3, f4⟩ := h.v11 (hL 11 (by decide))
  rw [f4] at e4
  injection e4 with e4
  simp at e4
  obtain ⟨⟨rfl, rfl⟩, ⟨rfl, rfl⟩, rfl, rfl⟩ := e4
  skip
  obtain ⟨D3, c3, q1, q2⟩ := h.v10 h3
  rw [q1] at f3
  have f5 := shV_inj f3
  rw [← f5] at hc
  have r1 := h.v4 h1
  have r2 := h.v7 h2
  have dd := h.d1 h1 h2
  have dk := fun x hx hy => h.d2 h1 h3 _ _ x q1 hx hy
  have dl := fun x hx hy => h.d3 h2 h3 _ _ x q1 hx hy
  rw [f1] at r1 dd dk
  rw [f2] at r2 dd dl
  exact ⟨_, _, _, ⟨r1, r2, q2, dd, dk, dl⟩, hc, h.sv⟩
end
set_option maxRecDepth 100000 in
set_option maxHeartbeats 8000000 in
theorem copied_any {P : Nat → Prop} (u : Value) (G : GiftD) (w : World) (hG : GiftR P w u G) (sG : GSmall G) : Calls Tryd.prog 37 #[u] w (CopyG G w) := by
  obtain ⟨A, ca, B, cb, C, cc, rfl, h1, h2, h3⟩ := hG
  obtain ⟨s1, s2, s3, s4, s5⟩ := sG
  obtain ⟨gh, S, T, kh, M⟩ := G
  simp only at *
  have H1 := Lib.hid (h1.mono (Q := (· ≠ w.heap.size + 1)) (fun b hb _ => by show b ≠ _; omega))
  have H2 := Lib.hid (h2.mono (Q := (· ≠ w.heap.size + 1)) (fun b hb _ => by show b ≠ _; omega))
  have H3 := Lib.hid (h3.mono (Q := (· ≠ w.heap.size + 1)) (fun b hb _ => by show b ≠ _; omega))
  have S1 := Lib.hid s1
  have S2 := Lib.hid s2
  clear h1 h2 h3 s1 s2
  go_enter Tryd.func37, Tryd.ntmps37
  go_wp2_with fail
  refine gen_world fun w1 hw1 => ?_
  have hC : GiftCell w1 w.heap.size gh (.slice A S.length ca) (.slice B T.length cb) kh (.slice C M.length cc) := by rw [hw1]; exact (GiftCell.new _ _ _ _ _ rfl).alloc _
  have hR : GiftCell w1 (w.heap.size + 1) 0 (.slice none 0 0) (.slice none 0 0) 0 (.slice none 0 0) := by rw [hw1]; exact GiftCell.new _ _ _ _ _ (by simp)
  have hb1 : Below w.heap.size w w1 := by rw [hw1]; exact bl_alloc _ (below_alloc _ _)
  have hz1 : w1.heap.size = w.heap.size + 2 := by rw [hw1]; simp
  clear hw1
  have HC := Lib.hid hC
  have HR := Lib.hid hR
  have HB1 := Lib.hid hb1
  have K1 := Lib.hid (H1.out.below hb1)
  have K2 := Lib.hid (H2.out.below hb1)
  have K3 := Lib.hid (H3.out.keep (Kept.below hb1))
  have hrx : w.heap.size + 1 < w1.heap.size := by omega
  have hgr : ¬ w.heap.size = w.heap.size + 1 := by omega
  clear hC hR hb1 H1 H2 H3
  refine wp_region_J2 (fun V Ld W => ∃ Hb Hw, CpI w1 w.heap.size (w.heap.size + 1) gh kh A ca S B cb T C cc M Hb Hw V Ld W) (by kernel_rfl) (by kernel_rfl) (by kernel_rfl) ?_ ?_ ?_
  case refine_1 => exact fun V => ⟨[], [], CpI.start [] [] HR.out V⟩
  case refine_2 =>
    refine JSteps.cons (fun V Ld a W hLi hpre hR hI K hK => ?_) ?_
    · obtain ⟨Hb, Hw, hI⟩ := hI
      have e := (hR.old 1 (by kernel_rfl)).trans (show _ = Value.pointer (some ⟨w.heap.size, 0, none⟩) from rfl)
      exact J_fieldAddr rfl _ (.tmp 1) 0 rfl (by rw [e]; exact fa_g0 W w.heap.size) (hK _ _ ⟨Hb, Hw, { hI with v0 := fun _ => rfl }⟩)
    refine JSteps.cons (fun V Ld a W hLi hpre hR hI K hK => ?_) ?_
    · obtain ⟨Hb, Hw, hI⟩ := hI
      have p0 : Ld 0 = true := hpre 0 (List.mem_of_elem_eq_true (by kernel_rfl))
      have f := (hR.ev 0 rfl rfl p0).trans (hI.v0 p0)
      exact J_load rfl _ (.tmp 3) rfl (by rw [f]; exact ld_gh (HC.out.sav hI.sv hgr)) (hK _ _ ⟨Hb, Hw, { hI with v1 := fun _ => rfl }⟩)
    refine JSteps.cons (fun V Ld a W hLi hpre hR hI K hK => ?_) ?_
    · obtain ⟨Hb, Hw, hI⟩ := hI
      have e := (hR.old 1 (by kernel_rfl)).trans (show _ = Value.pointer (some ⟨w.heap.size, 0, none⟩) from rfl)
      exact J_fieldAddr rfl _ (.tmp 1) 1 rfl (by rw [e]; exact fa_g1 W w.heap.size) (hK _ _ ⟨Hb, Hw, { hI with v2 := fun _ => rfl }⟩)
    refine JSteps.cons (fun V Ld a W hLi hpre hR hI K hK => ?_) ?_
    · obtain ⟨Hb, Hw, hI⟩ := hI
      have p2 : Ld 2 = true := hpre 2 (List.mem_of_elem_eq_true (by kernel_rfl))
      have f := (hR.ev 2 rfl rfl p2).trans (hI.v2 p2)
      exact J_load rfl _ (.tmp 5) rfl (by rw [f]; exact ld_gb (HC.out.sav hI.sv hgr)) (hK _ _ ⟨Hb, Hw, { hI with v3 := fun _ => rfl }⟩)
    refine JSteps.cons (fun V Ld a W hLi hpre hR hI K hK => ?_) ?_
    · obtain ⟨Hb, Hw, hI⟩ := hI
      have p3 : Ld 3 = true := hpre 3 (List.mem_of_elem_eq_true (by kernel_rfl))
      have f := (hR.ev 3 rfl rfl p3).trans (hI.v3 p3)
      refine J_call rfl _ _ _ rfl enter_shares (by simp only [List.map_toArray, List.map_cons, List.map_nil, f]) (shares_any A ca S W (K1.out.keep (hI.sv.kept fun b hb => hb)) S1.out (by omega)) ?_
      rintro e w' ⟨v, H2, rfl, hR2, hb2⟩
      exact ⟨_, rfl, hK _ _ ⟨H2, Hw, hI.o4 hLi (hR2.lower hI.sv.size) (fun x hx => (hR2.blk hx).1) hb2⟩⟩
    refine JSteps.cons (fun V Ld a W hLi hpre hR hI K hK => ?_) ?_
    · obtain ⟨Hb, Hw, hI⟩ := hI
      have e := (hR.old 1 (by kernel_rfl)).trans (show _ = Value.pointer (some ⟨w.heap.size, 0, none⟩) from rfl)
      exact J_fieldAddr rfl _ (.tmp 1) 2 rfl (by rw [e]; exact fa_g2 W w.heap.size) (hK _ _ ⟨Hb, Hw, { hI with v5 := fun _ => rfl }⟩)
    refine JSteps.cons (fun V Ld a W hLi hpre hR hI K hK => ?_) ?_
    · obtain ⟨Hb, Hw, hI⟩ := hI
      have p5 : Ld 5 = true := hpre 5 (List.mem_of_elem_eq_true (by kernel_rfl))
      have f := (hR.ev 5 rfl rfl p5).trans (hI.v5 p5)
      exact J_load rfl _ (.tmp 8) rfl (by rw [f]; exact ld_gw (HC.out.sav hI.sv hgr)) (hK _ _ ⟨Hb, Hw, { hI with v6 := fun _ => rfl }⟩)
    refine JSteps.cons (fun V Ld a W hLi hpre hR hI K hK => ?_) ?_
    · obtain ⟨Hb, Hw, hI⟩ := hI
      have p6 : Ld 6 = true := hpre 6 (List.mem_of_elem_eq_true (by kernel_rfl))
      have f := (hR.ev 6 rfl rfl p6).trans (hI.v6 p6)
      refine J_call rfl _ _ _ rfl enter_shares (by simp only [List.map_toArray, List.map_cons, List.map_nil, f]) (shares_any B cb T W (K2.out.keep (hI.sv.kept fun b hb => hb)) S2.out (by omega)) ?_
      rintro e w' ⟨v, H2, rfl, hR2, hb2⟩
      exact ⟨_, rfl, hK _ _ ⟨Hb, H2, hI.o7 hLi (hR2.lower hI.sv.size) (fun x hx => (hR2.blk hx).1) hb2⟩⟩
    refine JSteps.cons (fun V Ld a W hLi hpre hR hI K hK => ?_) ?_
    · obtain ⟨Hb, Hw, hI⟩ := hI
      have e := (hR.old 1 (by kernel_rfl)).trans (show _ = Value.pointer (some ⟨w.heap.size, 0, none⟩) from rfl)
      exact J_fieldAddr rfl _ (.tmp 1) 3 rfl (by rw [e]; exact fa_g3 W w.heap.size) (hK _ _ ⟨Hb, Hw, { hI with v8 := fun _ => rfl }⟩)
    refine JSteps.cons (fun V Ld a W hLi hpre hR hI K hK => ?_) ?_
    · obtain ⟨Hb, Hw, hI⟩ := hI
      have p8 : Ld 8 = true := hpre 8 (List.mem_of_elem_eq_true (by kernel_rfl))
      have f := (hR.ev 8 rfl rfl p8).trans (hI.v8 p8)
      exact J_load rfl _ (.tmp 11) rfl (by rw [f]; exact ld_gk (HC.out.sav hI.sv hgr)) (hK _ _ ⟨Hb, Hw, { hI with v9 := fun _ => rfl }⟩)
    refine JSteps.cons (fun V Ld a W hLi hpre hR hI K hK => ?_) ?_
    · obtain ⟨Hb, Hw, hI⟩ := hI
      have p9 : Ld 9 = true := hpre 9 (List.mem_of_elem_eq_true (by kernel_rfl))
      have f := (hR.ev 9 rfl rfl p9).trans (hI.v9 p9)
      refine J_call rfl _ _ _ rfl enter_share (by simp only [List.map_toArray, List.map_cons, List.map_nil, f]) (share_any kh C M cc W (K3.out.keep (hI.sv.kept fun b hb => hb)) s3) ?_
      rintro e w' ⟨D, dc, rfl, hown, hb2⟩
      exact ⟨_, rfl, hK _ _ ⟨Hb, Hw, hI.o10 hLi hown hb2⟩⟩
    refine JSteps.cons (fun V Ld a W hLi hpre hR hI K hK => ?_) ?_
    · obtain ⟨Hb, Hw, hI⟩ := hI
      have p1 : Ld 1 = true := hpre 1 (List.mem_of_elem_eq_true (by kernel_rfl))
      have p4 : Ld 4 = true := hpre 4 (List.mem_of_elem_eq_true (by kernel_rfl))
      have p7 : Ld 7 = true := hpre 7 (List.mem_of_elem_eq_true (by kernel_rfl))
      have p10 : Ld 10 = true := hpre 10 (List.mem_of_elem_eq_true (by kernel_rfl))
      have hL15 : Ld 12 = false := by
        cases hq : Ld 12 with
        | false => rfl
        | true => exact nfA hLi (hI.rc1 hq).1
      obtain ⟨A', ca', B', cb', D, dc, q4, q7, q10, hI'⟩ := hI.ob p4 p7 p10 hL15
      have f1 := (hR.ev 1 rfl rfl p1).trans (hI.v1 p1)
      have f4 := (hR.ev 4 rfl rfl p4).trans q4
      have f7 := (hR.ev 7 rfl rfl p7).trans q7
      have f10 := (hR.ev 10 rfl rfl p10).trans q10
      exact J_build rfl _ _ rfl (by simp only [List.map_toArray, List.map_cons, List.map_nil, f1, f4, f7, f10]; exact bd_gift W gh kh A' B' D S.length T.length M.length ca' cb' dc) (hK _ _ ⟨Hb, Hw, hI'⟩)
    refine JSteps.cons (fun V Ld a W hLi hpre hR hI K hK => ?_) trivial
    · obtain ⟨Hb, Hw, hI⟩ := hI
      have p11 : Ld 11 = true := hpre 11 (List.mem_of_elem_eq_true (by kernel_rfl))
      have e := (hR.old 2 (by kernel_rfl)).trans (show _ = Value.pointer (some ⟨w.heap.size + 1, 0, none⟩) from rfl)
      obtain ⟨w', hs, hI'⟩ := hI.os p11 hLi hrx
      exact J_store rfl _ (.tmp 2) (.tmp 14) rfl (by rw [e, hR.ev 11 rfl rfl p11]; exact hs) (hK _ _ ⟨Hb, Hw, hI'⟩)
  case refine_3 =>
    intro V Ld W hLd hI
    obtain ⟨Hb, Hw, hI⟩ := hI
    obtain ⟨bv, wv, kv, hO, hcell, hsv⟩ := hI.fin hLd
    have HF := Lib.hid (show CopyG ⟨gh, S, T, kh, M⟩ w (.returned (giftV gh bv wv kh kv)) W from ⟨bv, wv, kv, Hb, Hw, rfl, hO.lower (by omega), HB1.out.trans (hsv.below w.heap.size (by omega) (fun x _ e => by omega))⟩)
    have HCL := Lib.hid hcell
    clear hI hLd hO hcell hsv
    simp only [finL, putL, Act.put, Nat.reduceAdd]
    generalize V 0 = q0
    generalize V 1 = q1
    generalize V 2 = q2
    generalize V 3 = q3
    generalize V 4 = q4
    generalize V 5 = q5
    generalize V 6 = q6
    generalize V 7 = q7
    generalize V 8 = q8
    generalize V 9 = q9
    generalize V 10 = q10
    generalize V 11 = q11
    clear V
    simp only [List.setIfInBounds_toArray, List.set_cons_succ, List.set_cons_zero]
    go_wp2_with fail
    refine bodyPost_ret (results_gift rfl _ _ (w.heap.size + 1) rfl HCL.out) rfl HF.out
/-- The region of reportescrowref34.CopyGift, under way. -/
structure CpR (W0 : World) (gx rx : Nat) (gh kh : Int) (A : Option Addr) (ca : Nat) (S : List Shr) (B : Option Addr) (cb : Nat) (T : List Shr) (C : Option Addr) (cc : Nat) (M : List Int) (Hb Hw Hk : List HV) (V : Nat → Value) (Ld : Nat → Bool) (w : World) : Prop where
  sv : Sav (fun b => b = rx) W0 w
  v0 : Ld 0 = true → V 0 = .pointer (some ⟨gx, 0, none⟩)
  v1 : Ld 1 = true → V 1 = .int .i64 gh
  v2 : Ld 2 = true → V 2 = .pointer (some ⟨gx, 1, none⟩)
  v3 : Ld 3 = true → V 3 = slV A S.length ca
  v5 : Ld 5 = true → V 5 = .pointer (some ⟨gx, 2, none⟩)
  v6 : Ld 6 = true → V 6 = slV B T.length cb
  v8 : Ld 8 = true → V 8 = .pointer (some ⟨gx, 3, none⟩)
  v9 : Ld 9 = true → V 9 = shV kh (slV C M.length cc)
  v4 : Ld 4 = true → RowsI w W0.heap.size (V 4) Hb S
  v7 : Ld 7 = true → RowsI w W0.heap.size (V 7) Hw T
  v10 : Ld 10 = true → ∃ g, V 10 = .slice (some ⟨g, 0, none⟩) 1 1 ∧ ShP (· ≠ rx) w (some ⟨g, 0, none⟩) 1 [(kh, M)]
  v11 : Ld 11 = true → RowsI w W0.heap.size (V 11) Hk [(kh, M)]
  v12 : Ld 12 = true → Ld 11 = true ∧ ∃ g c, V 11 = .slice (some ⟨g, 0, none⟩) 1 c ∧ V 12 = .pointer (some ⟨g, 0, none⟩)
  v13 : Ld 13 = true → Ld 11 = true ∧ ∃ D c, V 13 = shV kh (slV D M.length c) ∧ w.ownsRow W0.heap.size 3 1 (slV D M.length c) M.length (valsI M) ∧ ∀ x, (slV D M.length c).ownBlock = some x → blkV (V 11) Hk x
  d1 : Ld 4 = true → Ld 7 = true → ∀ x, blkV (V 4) Hb x → blkV (V 7) Hw x → False
  d2 : Ld 4 = true → Ld 11 = true → ∀ x, blkV (V 4) Hb x → blkV (V 11) Hk x → False
  d3 : Ld 7 = true → Ld 11 = true → ∀ x, blkV (V 7) Hw x → blkV (V 11) Hk x → False
  v14 : Ld 14 = true → Ld 4 = true ∧ Ld 7 = true ∧ Ld 13 = true ∧ ∃ A' ca' B' cb' D c, V 4 = slV A' S.length ca' ∧ V 7 = slV B' T.length cb' ∧ V 13 = shV kh (slV D M.length c) ∧ V 14 = giftV gh (slV A' S.length ca') (slV B' T.length cb') kh (slV D M.length c)
  rc0 : Ld 15 = false → GiftCell w rx 0 (.slice none 0 0) (.slice none 0 0) 0 (.slice none 0 0)
  rc1 : Ld 15 = true → Ld 14 = true ∧ ∃ A' ca' B' cb' D c, V 14 = giftV gh (slV A' S.length ca') (slV B' T.length cb') kh (slV D M.length c) ∧ GiftCell w rx gh (slV A' S.length ca') (slV B' T.length cb') kh (slV D M.length c)
section
variable {W0 : World} {gx rx : Nat} {gh kh : Int} {A : Option Addr} {ca : Nat} {S : List Shr} {B : Option Addr} {cb : Nat} {T : List Shr} {C : Option Addr} {cc : Nat} {M : List Int} {Hb Hw Hk : List HV} {V : Nat → Value} {Ld : Nat → Bool} {w w' : World}
theorem CpR.start (Hb Hw Hk : List HV) (hrc : GiftCell W0 rx 0 (.slice none 0 0) (.slice none 0 0) 0 (.slice none 0 0)) (V : Nat → Value) : CpR W0 gx rx gh kh A ca S B cb T C cc M Hb Hw Hk V (fun _ => false) W0.drew where
  sv := (Sav.refl _ _).trans (Sav.of_below (Below.refl _ _).drew)
  v0 h := by cases h
  v1 h := by cases h
  v2 h := by cases h
  v3 h := by cases h
  v5 h := by cases h
  v6 h := by cases h
  v8 h := by cases h
  v9 h := by cases h
  v4 h := by cases h
  v7 h := by cases h
  v10 h := by cases h
  v11 h := by cases h
  v12 h := by cases h
  v13 h := by cases h
  d1 h := by cases h
  d2 h := by cases h
  d3 h := by cases h
  v14 h := by cases h
  rc0 _ := hrc
  rc1 h := by cases h
theorem CpR.move (h : CpR W0 gx rx gh kh A ca S B cb T C cc M Hb Hw Hk V Ld w) (hb : Below w.heap.size w w') : CpR W0 gx rx gh kh A ca S B cb T C cc M Hb Hw Hk V Ld w' := { h with
  sv := h.sv.trans (Sav.of_below hb)
  v4 := fun e => (h.v4 e).below hb
  v7 := fun e => (h.v7 e).below hb
  v10 := fun e => by obtain ⟨g, e1, e2⟩ := h.v10 e; exact ⟨g, e1, e2.below hb⟩
  v11 := fun e => (h.v11 e).below hb
  v13 := fun e => by obtain ⟨e0, D, c, e1, e2, e3⟩ := h.v13 e; exact ⟨e0, D, c, e1, own_below e2 hb, e3⟩
  rc0 := fun e => (h.rc0 e).below hb
  rc1 := fun e => by obtain ⟨e0, A', ca', B', cb', D, c, e1, e2⟩ := h.rc1 e; exact ⟨e0, A', ca', B', cb', D, c, e1, e2.below hb⟩ }
theorem CpR.o4 (h : CpR W0 gx rx gh kh A ca S B cb T C cc M Hb Hw Hk V Ld w) (hL : Ld 4 = false) {v : Value} {H2 : List HV} (hR : RowsI w' W0.heap.size v H2 S) (hN : ∀ x, blkV v H2 x → w.heap.size ≤ x) (hb : Below w.heap.size w w') :
    CpR W0 gx rx gh kh A ca S B cb T C cc M H2 Hw Hk (updV V 4 v) (upd Ld 4) w' := { h.move hb with
  v4 := fun _ => hR
  d1 := fun _ e x hx hy => by have := ((h.v7 e).blk hy).2; have := hN x hx; omega
  d2 := fun _ e x hx hy => by have := ((h.v11 e).blk hy).2; have := hN x hx; omega
  v14 := fun e => nfA hL (h.v14 e).1 }
theorem CpR.o7 (h : CpR W0 gx rx gh kh A ca S B cb T C cc M Hb Hw Hk V Ld w) (hL : Ld 7 = false) {v : Value} {H2 : List HV} (hR : RowsI w' W0.heap.size v H2 T) (hN : ∀ x, blkV v H2 x → w.heap.size ≤ x) (hb : Below w.heap.size w w') :
    CpR W0 gx rx gh kh A ca S B cb T C cc M Hb H2 Hk (updV V 7 v) (upd Ld 7) w' := { h.move hb with
  v7 := fun _ => hR
  d1 := fun e _ x hx hy => by have := ((h.v4 e).blk hx).2; have := hN x hy; omega
  d3 := fun _ e x hx hy => by have := ((h.v11 e).blk hy).2; have := hN x hx; omega
  v14 := fun e => nfA hL (h.v14 e).2.1 }
theorem CpR.o11 (h : CpR W0 gx rx gh kh A ca S B cb T C cc M Hb Hw Hk V Ld w) (hL : Ld 11 = false) {v : Value} {H2 : List HV} (hR : RowsI w' W0.heap.size v H2 [(kh, M)]) (hN : ∀ x, blkV v H2 x → w.heap.size ≤ x) (hb : Below w.heap.size w w') :
    CpR W0 gx rx gh kh A ca S B cb T C cc M Hb Hw H2 (updV V 11 v) (upd Ld 11) w' := { h.move hb with
  v11 := fun _ => hR
  d2 := fun e _ x hx hy => by have := ((h.v4 e).blk hx).2; have := hN x hy; omega
  d3 := fun e _ x hx hy => by have := ((h.v7 e).blk hx).2; have := hN x hy; omega
  v12 := fun e => nfA hL (h.v12 e).1
  v13 := fun e => nfA hL (h.v13 e).1 }
theorem CpR.ob (h : CpR W0 gx rx gh kh A ca S B cb T C cc M Hb Hw Hk V Ld w) (h1 : Ld 4 = true) (h2 : Ld 7 = true) (h3 : Ld 13 = true) (hL : Ld 15 = false) : ∃ A' ca' B' cb' D c, V 4 = slV A' S.length ca' ∧ V 7 = slV B' T.length cb' ∧ V 13 = shV kh (slV D M.length c) ∧
    CpR W0 gx rx gh kh A ca S B cb T C cc M Hb Hw Hk (updV V 14 (giftV gh (slV A' S.length ca') (slV B' T.length cb') kh (slV D M.length c))) (upd Ld 14) w := by
  obtain ⟨A', ca', e1⟩ := row_slice (h.v4 h1)
  obtain ⟨B', cb', e2⟩ := row_slice (h.v7 h2)
  obtain ⟨-, D, c, e3, -⟩ := h.v13 h3
  exact ⟨A', ca', B', cb', D, c, e1, e2, e3, { h with v14 := fun _ => ⟨h1, h2, h3, A', ca', B', cb', D, c, e1, e2, e3, rfl⟩, rc1 := fun e => nfA hL e }⟩
theorem CpR.os (h : CpR W0 gx rx gh kh A ca S B cb T C cc M Hb Hw Hk V Ld w) (hb : Ld 14 = true) (hL : Ld 15 = false) (hrx : rx < W0.heap.size) : ∃ w', (Instr.storeAt 37 (.pointer (some ⟨rx, 0, none⟩)) (V 14)).run Tryd.prog w = .ok () w' ∧ CpR W0 gx rx gh kh A ca S B cb T C cc M Hb Hw Hk (updV V 15 undef) (upd Ld 15) w' := by
  obtain ⟨h1, h2, h3, A', ca', B', cb', D, c, e1, e2, e3, e4⟩ := h.v14 hb
  have hcell := h.rc0 hL
  have hs := sav_fill w rx gh kh (slV A' S.length ca') (slV B' T.length cb') (slV D M.length c)
  refine ⟨_, by rw [e4]; exact st_gift hcell _ _ _ _ _ _ _ _ _ _ _, ?_⟩
  exact { h with
    sv := h.sv.trans hs
    v4 := fun e => (h.v4 e).sav hs (fun x hx hy => by have := ((h.v4 e).blk hx).1; omega)
    v7 := fun e => (h.v7 e).sav hs (fun x hx hy => by have := ((h.v7 e).blk hx).1; omega)
    v10 := fun e => by obtain ⟨g, q1, q2⟩ := h.v10 e; exact ⟨g, q1, q2.keep (hs.kept fun b hb => hb)⟩
    v11 := fun e => (h.v11 e).sav hs (fun x hx hy => by have := ((h.v11 e).blk hx).1; omega)
    v13 := fun e => by obtain ⟨q0, D', c', q1, q2, q3⟩ := h.v13 e; exact ⟨q0, D', c', q1, own_sav q2 hs (fun x hx hy => by have := (World.ownsRow.lt q2 x hx).1; omega), q3⟩
    rc0 := fun e => (by cases e)
    rc1 := fun _ => ⟨hb, A', ca', B', cb', D, c, e4, hcell.fill _ _ _ _ _⟩ }
/-- What the region leaves. -/
theorem CpR.fin (h : CpR W0 gx rx gh kh A ca S B cb T C cc M Hb Hw Hk V Ld w) (hL : ∀ i, i < 16 → Ld i = true) : ∃ bv wv kv, OwnG w W0.heap.size bv wv kv Hb Hw ⟨gh, S, T, kh, M⟩ ∧ GiftCell w rx gh bv wv kh kv ∧ Sav (fun b => b = rx) W0 w := by
  obtain ⟨-, A', ca', B', cb', D, c, e4, hc⟩ := h.rc1 (hL 15 (by decide))
  obtain ⟨h1, h2, h3, A2, ca2, B2, cb2, D2, c2, f1, f2, f3, f4⟩ := h.v14 (hL 14 (by decide))
  rw [f4] at e4
  injection e4 with e4
  simp at e4
  obtain ⟨⟨rfl, rfl⟩, ⟨rfl, rfl⟩, rfl, rfl⟩ := e4
  have h11 := (h.v13 h3).1
  obtain ⟨-, D3, c3, q1, q2, q3⟩ := h.v13 h3
  rw [q1] at f3
  have f5 := shV_inj f3
  rw [← f5] at hc
  have r1 := h.v4 h1
  have r2 := h.v7 h2
  have dd := h.d1 h1 h2
  have dk := fun x hx hy => h.d2 h1 h11 x hx (q3 x hy)
  have dl := fun x hx hy => h.d3 h2 h11 x hx (q3 x hy)
  rw [f1] at r1 dd dk
  rw [f2] at r2 dd dl
  exact ⟨_, _, _, ⟨r1, r2, q2, dd, dk, dl⟩, hc, h.sv⟩
end
set_option maxRecDepth 100000 in
set_option maxHeartbeats 8000000 in
theorem copyGift_any {P : Nat → Prop} (u : Value) (G : GiftD) (w : World) (hG : GiftR P w u G) (sG : GSmall G) : Calls Tryd.prog 45 #[u] w (CopyG G w) := by
  obtain ⟨A, ca, B, cb, C, cc, rfl, h1, h2, h3⟩ := hG
  obtain ⟨s1, s2, s3, s4, s5⟩ := sG
  obtain ⟨gh, S, T, kh, M⟩ := G
  simp only at *
  have H1 := Lib.hid (h1.mono (Q := (· ≠ w.heap.size + 1)) (fun b hb _ => by show b ≠ _; omega))
  have H2 := Lib.hid (h2.mono (Q := (· ≠ w.heap.size + 1)) (fun b hb _ => by show b ≠ _; omega))
  have H3 := Lib.hid (h3.mono (Q := (· ≠ w.heap.size + 1)) (fun b hb _ => by show b ≠ _; omega))
  have S1 := Lib.hid s1
  have S2 := Lib.hid s2
  clear h1 h2 h3 s1 s2
  go_enter Tryd.func45, Tryd.ntmps45
  go_wp2_with fail
  refine gen_world fun w1 hw1 => ?_
  have hC : GiftCell w1 w.heap.size gh (.slice A S.length ca) (.slice B T.length cb) kh (.slice C M.length cc) := by rw [hw1]; exact (GiftCell.new _ _ _ _ _ rfl).alloc _
  have hR : GiftCell w1 (w.heap.size + 1) 0 (.slice none 0 0) (.slice none 0 0) 0 (.slice none 0 0) := by rw [hw1]; exact GiftCell.new _ _ _ _ _ (by simp)
  have hb1 : Below w.heap.size w w1 := by rw [hw1]; exact bl_alloc _ (below_alloc _ _)
  have hz1 : w1.heap.size = w.heap.size + 2 := by rw [hw1]; simp
  clear hw1
  have HC := Lib.hid hC
  have HR := Lib.hid hR
  have HB1 := Lib.hid hb1
  have K1 := Lib.hid (H1.out.below hb1)
  have K2 := Lib.hid (H2.out.below hb1)
  have K3 := Lib.hid (H3.out.keep (Kept.below hb1))
  have hrx : w.heap.size + 1 < w1.heap.size := by omega
  have hgr : ¬ w.heap.size = w.heap.size + 1 := by omega
  clear hC hR hb1 H1 H2 H3
  refine wp_region_J2 (fun V Ld W => ∃ Hb Hw Hk, CpR w1 w.heap.size (w.heap.size + 1) gh kh A ca S B cb T C cc M Hb Hw Hk V Ld W) (by kernel_rfl) (by kernel_rfl) (by kernel_rfl) ?_ ?_ ?_
  case refine_1 => exact fun V => ⟨[], [], [], CpR.start [] [] [] HR.out V⟩
  case refine_2 =>
    refine JSteps.cons (fun V Ld a W hLi hpre hR hI K hK => ?_) ?_
    · obtain ⟨Hb, Hw, Hk, hI⟩ := hI
      have e := (hR.old 1 (by kernel_rfl)).trans (show _ = Value.pointer (some ⟨w.heap.size, 0, none⟩) from rfl)
      exact J_fieldAddr rfl _ (.tmp 1) 0 rfl (by rw [e]; exact fa_g0 W w.heap.size) (hK _ _ ⟨Hb, Hw, Hk, { hI with v0 := fun _ => rfl }⟩)
    refine JSteps.cons (fun V Ld a W hLi hpre hR hI K hK => ?_) ?_
    · obtain ⟨Hb, Hw, Hk, hI⟩ := hI
      have p0 : Ld 0 = true := hpre 0 (List.mem_of_elem_eq_true (by kernel_rfl))
      have f := (hR.ev 0 rfl rfl p0).trans (hI.v0 p0)
      exact J_load rfl _ (.tmp 3) rfl (by rw [f]; exact ld_gh (HC.out.sav hI.sv hgr)) (hK _ _ ⟨Hb, Hw, Hk, { hI with v1 := fun _ => rfl }⟩)
    refine JSteps.cons (fun V Ld a W hLi hpre hR hI K hK => ?_) ?_
    · obtain ⟨Hb, Hw, Hk, hI⟩ := hI
      have e := (hR.old 1 (by kernel_rfl)).trans (show _ = Value.pointer (some ⟨w.heap.size, 0, none⟩) from rfl)
      exact J_fieldAddr rfl _ (.tmp 1) 1 rfl (by rw [e]; exact fa_g1 W w.heap.size) (hK _ _ ⟨Hb, Hw, Hk, { hI with v2 := fun _ => rfl }⟩)
    refine JSteps.cons (fun V Ld a W hLi hpre hR hI K hK => ?_) ?_
    · obtain ⟨Hb, Hw, Hk, hI⟩ := hI
      have p2 : Ld 2 = true := hpre 2 (List.mem_of_elem_eq_true (by kernel_rfl))
      have f := (hR.ev 2 rfl rfl p2).trans (hI.v2 p2)
      exact J_load rfl _ (.tmp 5) rfl (by rw [f]; exact ld_gb (HC.out.sav hI.sv hgr)) (hK _ _ ⟨Hb, Hw, Hk, { hI with v3 := fun _ => rfl }⟩)
    refine JSteps.cons (fun V Ld a W hLi hpre hR hI K hK => ?_) ?_
    · obtain ⟨Hb, Hw, Hk, hI⟩ := hI
      have p3 : Ld 3 = true := hpre 3 (List.mem_of_elem_eq_true (by kernel_rfl))
      have f := (hR.ev 3 rfl rfl p3).trans (hI.v3 p3)
      refine J_call rfl _ _ _ rfl enter_refCopy (by simp only [List.map_toArray, List.map_cons, List.map_nil, f]) (copy_any A ca S W (K1.out.keep (hI.sv.kept fun b hb => hb)) S1.out (by omega)) ?_
      rintro e w' ⟨v, H2, rfl, hR2, hb2⟩
      exact ⟨_, rfl, hK _ _ ⟨H2, Hw, Hk, hI.o4 hLi (hR2.lower hI.sv.size) (fun x hx => (hR2.blk hx).1) hb2⟩⟩
    refine JSteps.cons (fun V Ld a W hLi hpre hR hI K hK => ?_) ?_
    · obtain ⟨Hb, Hw, Hk, hI⟩ := hI
      have e := (hR.old 1 (by kernel_rfl)).trans (show _ = Value.pointer (some ⟨w.heap.size, 0, none⟩) from rfl)
      exact J_fieldAddr rfl _ (.tmp 1) 2 rfl (by rw [e]; exact fa_g2 W w.heap.size) (hK _ _ ⟨Hb, Hw, Hk, { hI with v5 := fun _ => rfl }⟩)
    refine JSteps.cons (fun V Ld a W hLi hpre hR hI K hK => ?_) ?_
    · obtain ⟨Hb, Hw, Hk, hI⟩ := hI
      have p5 : Ld 5 = true := hpre 5 (List.mem_of_elem_eq_true (by kernel_rfl))
      have f := (hR.ev 5 rfl rfl p5).trans (hI.v5 p5)
      exact J_load rfl _ (.tmp 8) rfl (by rw [f]; exact ld_gw (HC.out.sav hI.sv hgr)) (hK _ _ ⟨Hb, Hw, Hk, { hI with v6 := fun _ => rfl }⟩)
    refine JSteps.cons (fun V Ld a W hLi hpre hR hI K hK => ?_) ?_
    · obtain ⟨Hb, Hw, Hk, hI⟩ := hI
      have p6 : Ld 6 = true := hpre 6 (List.mem_of_elem_eq_true (by kernel_rfl))
      have f := (hR.ev 6 rfl rfl p6).trans (hI.v6 p6)
      refine J_call rfl _ _ _ rfl enter_refCopy (by simp only [List.map_toArray, List.map_cons, List.map_nil, f]) (copy_any B cb T W (K2.out.keep (hI.sv.kept fun b hb => hb)) S2.out (by omega)) ?_
      rintro e w' ⟨v, H2, rfl, hR2, hb2⟩
      exact ⟨_, rfl, hK _ _ ⟨Hb, H2, Hk, hI.o7 hLi (hR2.lower hI.sv.size) (fun x hx => (hR2.blk hx).1) hb2⟩⟩
    refine JSteps.cons (fun V Ld a W hLi hpre hR hI K hK => ?_) ?_
    · obtain ⟨Hb, Hw, Hk, hI⟩ := hI
      have e := (hR.old 1 (by kernel_rfl)).trans (show _ = Value.pointer (some ⟨w.heap.size, 0, none⟩) from rfl)
      exact J_fieldAddr rfl _ (.tmp 1) 3 rfl (by rw [e]; exact fa_g3 W w.heap.size) (hK _ _ ⟨Hb, Hw, Hk, { hI with v8 := fun _ => rfl }⟩)
    refine JSteps.cons (fun V Ld a W hLi hpre hR hI K hK => ?_) ?_
    · obtain ⟨Hb, Hw, Hk, hI⟩ := hI
      have p8 : Ld 8 = true := hpre 8 (List.mem_of_elem_eq_true (by kernel_rfl))
      have f := (hR.ev 8 rfl rfl p8).trans (hI.v8 p8)
      exact J_load rfl _ (.tmp 11) rfl (by rw [f]; exact ld_gk (HC.out.sav hI.sv hgr)) (hK _ _ ⟨Hb, Hw, Hk, { hI with v9 := fun _ => rfl }⟩)
    refine JSteps.cons (fun V Ld a W hLi hpre hR hI K hK => ?_) ?_
    · obtain ⟨Hb, Hw, Hk, hI⟩ := hI
      have p9 : Ld 9 = true := hpre 9 (List.mem_of_elem_eq_true (by kernel_rfl))
      have f := (hR.ev 9 rfl rfl p9).trans (hI.v9 p9)
      exact J_buildSlice rfl _ 1 _ rfl (by simp only [List.map_toArray, List.map_cons, List.map_nil, f]; exact bs_share W kh C M.length cc) (hK _ _ ⟨Hb, Hw, Hk, { hI.move (below_alloc W _) with v10 := fun _ => ⟨_, rfl, lit_one (heap_alloc_new _ _) (by have := hI.sv.size; show ¬ _; omega) ((K3.out.keep (hI.sv.kept fun b hb => hb)).keep (Kept.below (below_alloc _ _)))⟩ }⟩)
    refine JSteps.cons (fun V Ld a W hLi hpre hR hI K hK => ?_) ?_
    · obtain ⟨Hb, Hw, Hk, hI⟩ := hI
      have p10 : Ld 10 = true := hpre 10 (List.mem_of_elem_eq_true (by kernel_rfl))
      obtain ⟨lg, e10, hlit⟩ := hI.v10 p10
      have f := (hR.ev 10 rfl rfl p10).trans e10
      refine J_call rfl _ _ _ rfl enter_refCopy (by simp only [List.map_toArray, List.map_cons, List.map_nil, f]; rfl) (copy_any (some ⟨lg, 0, none⟩) 1 [(kh, M)] W hlit (short_one' s3) (by simp)) ?_
      rintro e w' ⟨v, H2, rfl, hR2, hb2⟩
      exact ⟨_, rfl, hK _ _ ⟨Hb, Hw, H2, hI.o11 hLi (hR2.lower hI.sv.size) (fun x hx => (hR2.blk hx).1) hb2⟩⟩
    refine JSteps.cons (fun V Ld a W hLi hpre hR hI K hK => ?_) ?_
    · obtain ⟨Hb, Hw, Hk, hI⟩ := hI
      have p11 : Ld 11 = true := hpre 11 (List.mem_of_elem_eq_true (by kernel_rfl))
      obtain ⟨lg, lc, e11, -⟩ := (hI.v11 p11).out.form (by rw [(hI.v11 p11).len]; simp)
      rw [(hI.v11 p11).len] at e11
      have f := (hR.ev 11 rfl rfl p11).trans e11
      exact J_indexAddr rfl _ (.tmp 14) (.const (.int .i64 0)) rfl (by rw [f]; exact ia_share0 W lg lc) (hK _ _ ⟨Hb, Hw, Hk, { hI with v12 := fun _ => ⟨p11, lg, lc, e11, rfl⟩ }⟩)
    refine JSteps.cons (fun V Ld a W hLi hpre hR hI K hK => ?_) ?_
    · obtain ⟨Hb, Hw, Hk, hI⟩ := hI
      have p12 : Ld 12 = true := hpre 12 (List.mem_of_elem_eq_true (by kernel_rfl))
      obtain ⟨p11, lg, lc, e11, e12⟩ := hI.v12 p12
      have f := (hR.ev 12 rfl rfl p12).trans e12
      obtain ⟨D, dc, hc0, hc1, hrow, hblk⟩ := row_first (hI.v11 p11) e11
      exact J_load rfl _ (.tmp 15) rfl (by rw [f]; exact ld_share hc0 hc1) (hK _ _ ⟨Hb, Hw, Hk, { hI with v13 := fun _ => ⟨p11, D, dc, rfl, hrow, hblk⟩, v14 := fun e => nfA hLi (hI.v14 e).2.2.1 }⟩)
    refine JSteps.cons (fun V Ld a W hLi hpre hR hI K hK => ?_) ?_
    · obtain ⟨Hb, Hw, Hk, hI⟩ := hI
      have p1 : Ld 1 = true := hpre 1 (List.mem_of_elem_eq_true (by kernel_rfl))
      have p4 : Ld 4 = true := hpre 4 (List.mem_of_elem_eq_true (by kernel_rfl))
      have p7 : Ld 7 = true := hpre 7 (List.mem_of_elem_eq_true (by kernel_rfl))
      have p13 : Ld 13 = true := hpre 13 (List.mem_of_elem_eq_true (by kernel_rfl))
      have hL15 : Ld 15 = false := by
        cases hq : Ld 15 with
        | false => rfl
        | true => exact nfA hLi (hI.rc1 hq).1
      obtain ⟨A', ca', B', cb', D, dc, q4, q7, q10, hI'⟩ := hI.ob p4 p7 p13 hL15
      have f1 := (hR.ev 1 rfl rfl p1).trans (hI.v1 p1)
      have f4 := (hR.ev 4 rfl rfl p4).trans q4
      have f7 := (hR.ev 7 rfl rfl p7).trans q7
      have f10 := (hR.ev 13 rfl rfl p13).trans q10
      exact J_build rfl _ _ rfl (by simp only [List.map_toArray, List.map_cons, List.map_nil, f1, f4, f7, f10]; exact bd_gift W gh kh A' B' D S.length T.length M.length ca' cb' dc) (hK _ _ ⟨Hb, Hw, Hk, hI'⟩)
    refine JSteps.cons (fun V Ld a W hLi hpre hR hI K hK => ?_) trivial
    · obtain ⟨Hb, Hw, Hk, hI⟩ := hI
      have p14 : Ld 14 = true := hpre 14 (List.mem_of_elem_eq_true (by kernel_rfl))
      have e := (hR.old 2 (by kernel_rfl)).trans (show _ = Value.pointer (some ⟨w.heap.size + 1, 0, none⟩) from rfl)
      obtain ⟨w', hs, hI'⟩ := hI.os p14 hLi hrx
      exact J_store rfl _ (.tmp 2) (.tmp 17) rfl (by rw [e, hR.ev 14 rfl rfl p14]; exact hs) (hK _ _ ⟨Hb, Hw, Hk, hI'⟩)
  case refine_3 =>
    intro V Ld W hLd hI
    obtain ⟨Hb, Hw, Hk, hI⟩ := hI
    obtain ⟨bv, wv, kv, hO, hcell, hsv⟩ := hI.fin hLd
    have HF := Lib.hid (show CopyG ⟨gh, S, T, kh, M⟩ w (.returned (giftV gh bv wv kh kv)) W from ⟨bv, wv, kv, Hb, Hw, rfl, hO.lower (by omega), HB1.out.trans (hsv.below w.heap.size (by omega) (fun x _ e => by omega))⟩)
    have HCL := Lib.hid hcell
    clear hI hLd hO hcell hsv
    simp only [finL, putL, Act.put, Nat.reduceAdd]
    generalize V 0 = q0
    generalize V 1 = q1
    generalize V 2 = q2
    generalize V 3 = q3
    generalize V 4 = q4
    generalize V 5 = q5
    generalize V 6 = q6
    generalize V 7 = q7
    generalize V 8 = q8
    generalize V 9 = q9
    generalize V 10 = q10
    generalize V 11 = q11
    generalize V 12 = q12
    generalize V 13 = q13
    generalize V 14 = q14
    clear V
    simp only [List.setIfInBounds_toArray, List.set_cons_succ, List.set_cons_zero]
    go_wp2_with fail
    refine bodyPost_ret (results_gift rfl _ _ (w.heap.size + 1) rfl HCL.out) rfl HF.out
end Go.Proofs.YtjckpammcgeloaaDoor
namespace Go.Proofs.YtjckpammcgeloaaDoor
open Go.RowKit

def plI (n m : Int) : Int := n % m
theorem plI_rng {m : Int} (hm : 1 ≤ m) (n : Int) : 0 ≤ plI n m ∧ plI n m < m := ⟨Int.emod_nonneg _ (by omega), Int.emod_lt_of_pos _ (by omega)⟩
theorem place_pl (n m : Int) (w : World) (hm : 1 ≤ m) (hm2 : m ≤ 4611686018427387904) : Calls Tryd.prog 55 #[.int .i64 n, .int .i64 m] w (Ret (.int .i64 (plI n m)) w) := place_any n m w hm hm2
theorem mod_pl (n m : Int) (w : World) (hm : 1 ≤ m) (hm2 : m ≤ 4611686018427387904) : Calls Tryd.prog 46 #[.int .i64 n, .int .i64 m] w (Ret (.int .i64 (plI n m)) w) := refMod_any n m w hm hm2
/-- By how much the values grow. -/
def moreI (p : Nat) (b : Int) : Int := emI p (1 + plI b ((p : Int) - 1))
theorem moreI_eq {p : Nat} (hp : 2 ≤ p) (b : Int) : moreI p b = 1 + plI b ((p : Int) - 1) := by
  obtain ⟨h1, h2⟩ := plI_rng (m := (p : Int) - 1) (by omega) b
  unfold moreI emI
  exact Int.emod_eq_of_lt (by omega) (by omega)
theorem moreI_rng {p : Nat} (hp : 1 ≤ p) (b : Int) : 0 ≤ moreI p b ∧ moreI p b < p := emI_rng hp _
def shS (p : Nat) (c : Int) (s : Shr) : Shr := (s.1, shvL p c s.2)
theorem all1_fn (p : Nat) (c : Int) (px mx base : Nat) (w : World) (hp : 1 ≤ p) (hp2 : p ≤ 2147483648) (hc : 0 ≤ c ∧ c < p) (hpx : w.cell? ⟨px, 0, none⟩ = some (.int .i64 p)) (hmx : w.cell? ⟨mx, 0, none⟩ = some (.int .i64 c)) :
    ShFn 58 #[.pointer (some ⟨px, 0, none⟩), .pointer (some ⟨mx, 0, none⟩)] (fun b => b = px ∨ b = mx) w base 1048576 (shS p c) := by
  intro W g o v x L hs h0 h1 hf hr hl ng hE hg
  have e1 := (hs.cell (o := 0) (cellB_lt hpx) (fun h => h (.inl rfl))).trans hpx
  have e2 := (hs.cell (o := 0) (cellB_lt hmx) (fun h => h (.inr rfl))).trans hmx
  refine (all1_any p c g o px mx base v L W hp hp2 hc h1 hr hl e1 e2 ng (fun e => hE px e (.inl rfl)) (fun e => hE mx e (.inr rfl))).mono ?_
  rintro e w2 ⟨rfl, hs2, hr2⟩
  exact ⟨rfl, Chg.nums hs2 hr2 ng (cellB_lt h0) h0⟩
theorem EachP.shift {X : Nat → Prop} {base : Nat} {bv wv kv : Value} {G : GiftD} {w w1 : World} {e : Ending} {w' : World} (h : EachP X base bv wv kv G w1 e w') (hb : Below w.heap.size w w1) : EachP X base bv wv kv G w e w' := by
  obtain ⟨Hb, Hw, h1, h2, h3, h4⟩ := h
  exact ⟨Hb, Hw, h1, h2, h3, (Sav.of_below hb).trans h4⟩
theorem fa_p0 (w : World) (x : Nat) : (Instr.fieldAt 29 (.pointer (some ⟨x, 0, none⟩)) 0).run Tryd.prog w = .ok (.pointer (some ⟨x, 0, none⟩)) w := by go_simp
theorem ld_p0 {w : World} {x : Nat} {p n h : Int} (H : PlanCell w x p n h) : (Instr.loadAt 3 (.pointer (some ⟨x, 0, none⟩))).run Tryd.prog w = .ok (.int .i64 p) w := by
  have h0 := H.c0
  go_simp
theorem al_int (w : World) : (Instr.alloc 3 true (.tuple #[])).run Tryd.prog w = .ok (.pointer (some ⟨w.heap.size, 0, none⟩)) (w.alloc (.cells #[.int .i64 0] 3)) := by go_simp
theorem st_int {w : World} {x : Nat} {y : Int} (H : IntBlk w x [y]) (z : Int) : (Instr.storeAt 3 (.pointer (some ⟨x, 0, none⟩)) (.int .i64 z)).run Tryd.prog w = .ok () (w.setCell ⟨x, 0, none⟩ (.int .i64 z)) := by
  have h0 := H.cell 0 (by simp)
  have f0 := H.frozen 0
  go_simp
theorem sub_one (w : World) (x : Int) (h1 : 0 ≤ x) (h2 : x ≤ 4611686018427387904) : (do Go.eqGuard .sub 3 (.tmp 12) (.const (.int .i64 1)) (.int .i64 x) (.int .i64 1); Go.binOp .sub 3 (.int .i64 x) (.int .i64 1) : Sem Value).run Tryd.prog w = .ok (.int .i64 (x - 1)) w := by
  have e := IntWalk.i64_in (x - 1) (by omega)
  go_simp
theorem one_add (w : World) (x : Int) (h1 : 0 ≤ x) (h2 : x ≤ 4611686018427387904) : (do Go.eqGuard .add 3 (.const (.int .i64 1)) (.tmp 14) (.int .i64 1) (.int .i64 x); Go.binOp .add 3 (.int .i64 1) (.int .i64 x) : Sem Value).run Tryd.prog w = .ok (.int .i64 (1 + x)) w := by
  have e := IntWalk.i64_in (1 + x) (by omega)
  go_simp
theorem enter_place (args : Array Value) (w : World) : (callFunc 55 args).run Tryd.prog w = .ok (.enter 55 args) w :=
  Go.MuLone.run_callFunc_enter Tryd.func55 (by kernel_rfl) rfl args w
theorem enter_element (args : Array Value) (w : World) : (callFunc 57 args).run Tryd.prog w = .ok (.enter 57 args) w :=
  Go.MuLone.run_callFunc_enter Tryd.func57 (by kernel_rfl) rfl args w
/-- The region that finds by how much, under way. -/
structure AlI (W0 : World) (px : Nat) (p : Nat) (b : Int) (V : Nat → Value) (Ld : Nat → Bool) (w : World) : Prop where
  kp : Below W0.heap.size W0 w
  v0 : Ld 0 = true → V 0 = .pointer (some ⟨px, 0, none⟩)
  v1 : Ld 1 = true → V 1 = .int .i64 p
  v2 : Ld 2 = true → V 2 = .int .i64 b
  v3 : Ld 3 = true → V 3 = .pointer (some ⟨px, 0, none⟩)
  v4 : Ld 4 = true → V 4 = .int .i64 p
  v5 : Ld 5 = true → V 5 = .int .i64 ((p : Int) - 1)
  v6 : Ld 6 = true → V 6 = .int .i64 (plI b ((p : Int) - 1))
  v7 : Ld 7 = true → V 7 = .int .i64 (1 + plI b ((p : Int) - 1))
  v8 : Ld 8 = true → V 8 = .int .i64 (moreI p b)
  v9 : Ld 9 = true → ∃ m, V 9 = .pointer (some ⟨m, 0, none⟩) ∧ W0.heap.size ≤ m ∧ (Ld 10 = false → IntBlk w m [0]) ∧ (Ld 10 = true → IntBlk w m [moreI p b])
  d10 : Ld 10 = true → Ld 9 = true
theorem nfB {b : Bool} {A : Prop} (h : b = false) (h2 : b = true) : A := by rw [h] at h2; cases h2

set_option maxRecDepth 100000 in
set_option maxHeartbeats 8000000 in
theorem all_any (p : Nat) (n h b : Int) (base : Nat) (bv wv kv : Value) (Hb Hw : List HV) (G : GiftD) (w : World) (hO : OwnG w base bv wv kv Hb Hw G) (sG : GSmall G) (hp : 2 ≤ p) (hp2 : p ≤ 1073741824) (hbase : base ≤ w.heap.size) :
    Calls Tryd.prog 39 #[planV p n h, giftV G.h bv wv G.kh kv, .int .i64 b] w (EachP (blkG bv wv kv Hb Hw) base bv wv kv (mapG (shS p (moreI p b)) G) w) := by
  have HO := Lib.hid hO
  obtain ⟨s1, s2, s3, s4, s5⟩ := sG
  have S1 := Lib.hid s1
  have S2 := Lib.hid s2
  obtain ⟨A, ca, hbv⟩ := row_slice hO.sb
  obtain ⟨B, cb, hwv⟩ := row_slice hO.sw
  obtain ⟨C, cc, hkv, -⟩ := own_ints hO.sk rfl
  have hm1 : (1 : Int) ≤ (p : Int) - 1 := by omega
  have hm2 : (p : Int) - 1 ≤ 4611686018427387904 := by omega
  have hpr := plI_rng hm1 b
  have hmr := moreI_rng (p := p) (by omega) b
  have HBL := Lib.hid (fun x (hx : blkG bv wv kv Hb Hw x) => hO.blk hx)
  clear hO s1 s2
  generalize hG : mapG (shS p (moreI p b)) G = GG at *
  have HGG := Lib.hid hG
  clear hG
  obtain ⟨gh, S, T, gkh, L⟩ := G
  simp only at *
  subst hbv; subst hwv; subst hkv
  go_enter Tryd.func39, Tryd.ntmps39
  go_wp2_with fail
  refine gen_world fun w1 hw1 => ?_
  have hP : PlanCell w1 w.heap.size p n h := by rw [hw1]; exact ((PlanCell.new _ _ _ rfl).alloc _).alloc _
  have hG : GiftCell w1 (w.heap.size + 1) gh (.slice A S.length ca) (.slice B T.length cb) gkh (.slice C L.length cc) := by rw [hw1]; exact (GiftCell.new _ _ _ _ _ (by simp)).alloc _
  have hR : GiftCell w1 (w.heap.size + 1 + 1) 0 (.slice none 0 0) (.slice none 0 0) 0 (.slice none 0 0) := by rw [hw1]; exact GiftCell.new _ _ _ _ _ (by simp)
  have hb1 : Below w.heap.size w w1 := by rw [hw1]; exact bl_alloc _ (bl_alloc _ (below_alloc _ _))
  have hz1 : w1.heap.size = w.heap.size + 3 := by rw [hw1]; simp
  clear hw1
  have HP := Lib.hid hP
  have HG := Lib.hid hG
  have HR := Lib.hid hR
  have HB1 := Lib.hid hb1
  have p0 := hP.c0
  clear hP hG hR hb1
  refine wp_region_J2 (AlI w1 w.heap.size p b) (by kernel_rfl) (by kernel_rfl) (by kernel_rfl) ?_ ?_ ?_
  case refine_1 =>
    intro V
    exact ⟨(Below.refl _ _).drew, fun h => nfB rfl h, fun h => nfB rfl h, fun h => nfB rfl h, fun h => nfB rfl h, fun h => nfB rfl h, fun h => nfB rfl h, fun h => nfB rfl h, fun h => nfB rfl h, fun h => nfB rfl h, fun h => nfB rfl h, fun h => nfB rfl h⟩
  case refine_2 =>
    refine JSteps.cons (fun V Ld a W hLi hpre hR hI K hK => ?_) ?_
    · have e := (hR.old 3 (by kernel_rfl)).trans (show _ = Value.pointer (some ⟨w.heap.size, 0, none⟩) from rfl)
      exact J_fieldAddr rfl _ (.tmp 3) 0 rfl (by rw [e]; exact fa_p0 W w.heap.size) (hK _ _ { hI with v0 := fun _ => rfl })
    refine JSteps.cons (fun V Ld a W hLi hpre hR hI K hK => ?_) ?_
    · have p0 : Ld 0 = true := hpre 0 (List.mem_of_elem_eq_true (by kernel_rfl))
      have f := (hR.ev 0 rfl rfl p0).trans (hI.v0 p0)
      exact J_load rfl _ (.tmp 8) rfl (by rw [f]; exact ld_p0 (HP.out.below hI.kp)) (hK _ _ { hI with v1 := fun _ => rfl })
    refine JSteps.cons (fun V Ld a W hLi hpre hR hI K hK => ?_) ?_
    · have e := (hR.old 2 (by kernel_rfl)).trans (show _ = Value.int .i64 b from rfl)
      exact J_move rfl (.tmp 2) rfl (hK _ _ { hI with v2 := fun _ => e })
    refine JSteps.cons (fun V Ld a W hLi hpre hR hI K hK => ?_) ?_
    · have e := (hR.old 3 (by kernel_rfl)).trans (show _ = Value.pointer (some ⟨w.heap.size, 0, none⟩) from rfl)
      exact J_fieldAddr rfl _ (.tmp 3) 0 rfl (by rw [e]; exact fa_p0 W w.heap.size) (hK _ _ { hI with v3 := fun _ => rfl })
    refine JSteps.cons (fun V Ld a W hLi hpre hR hI K hK => ?_) ?_
    · have p3 : Ld 3 = true := hpre 3 (List.mem_of_elem_eq_true (by kernel_rfl))
      have f := (hR.ev 3 rfl rfl p3).trans (hI.v3 p3)
      exact J_load rfl _ (.tmp 11) rfl (by rw [f]; exact ld_p0 (HP.out.below hI.kp)) (hK _ _ { hI with v4 := fun _ => rfl })
    refine JSteps.cons (fun V Ld a W hLi hpre hR hI K hK => ?_) ?_
    · have p4 : Ld 4 = true := hpre 4 (List.mem_of_elem_eq_true (by kernel_rfl))
      have f := (hR.ev 4 rfl rfl p4).trans (hI.v4 p4)
      exact J_binOp rfl _ _ (.tmp 12) (.const (.int .i64 1)) _ rfl (by rw [f]; exact sub_one W p (by omega) (by omega)) (hK _ _ { hI with v5 := fun _ => rfl })
    refine JSteps.cons (fun V Ld a W hLi hpre hR hI K hK => ?_) ?_
    · have p2 : Ld 2 = true := hpre 2 (List.mem_of_elem_eq_true (by kernel_rfl))
      have p5 : Ld 5 = true := hpre 5 (List.mem_of_elem_eq_true (by kernel_rfl))
      have f2 := (hR.ev 2 rfl rfl p2).trans (hI.v2 p2)
      have f5 := (hR.ev 5 rfl rfl p5).trans (hI.v5 p5)
      refine J_call rfl _ _ _ rfl enter_place (by simp only [List.map_toArray, List.map_cons, List.map_nil, f2, f5]) (place_pl b ((p : Int) - 1) W hm1 hm2) ?_
      rintro e w' ⟨rfl, rfl⟩
      exact ⟨_, rfl, hK _ _ { hI with v6 := fun _ => rfl }⟩
    refine JSteps.cons (fun V Ld a W hLi hpre hR hI K hK => ?_) ?_
    · have p6 : Ld 6 = true := hpre 6 (List.mem_of_elem_eq_true (by kernel_rfl))
      have f := (hR.ev 6 rfl rfl p6).trans (hI.v6 p6)
      exact J_binOp rfl _ _ (.const (.int .i64 1)) (.tmp 14) _ rfl (by rw [f]; exact one_add W _ hpr.1 (by omega)) (hK _ _ { hI with v7 := fun _ => rfl })
    refine JSteps.cons (fun V Ld a W hLi hpre hR hI K hK => ?_) ?_
    · have p1 : Ld 1 = true := hpre 1 (List.mem_of_elem_eq_true (by kernel_rfl))
      have p7 : Ld 7 = true := hpre 7 (List.mem_of_elem_eq_true (by kernel_rfl))
      have f1 := (hR.ev 1 rfl rfl p1).trans (hI.v1 p1)
      have f7 := (hR.ev 7 rfl rfl p7).trans (hI.v7 p7)
      refine J_call rfl _ _ _ rfl enter_element (by simp only [List.map_toArray, List.map_cons, List.map_nil, f1, f7]) (elemP_any p (1 + plI b ((p : Int) - 1)) W (by omega) (by omega)) ?_
      rintro e w' ⟨rfl, rfl⟩
      exact ⟨_, rfl, hK _ _ { hI with v8 := fun _ => rfl }⟩
    refine JSteps.cons (fun V Ld a W hLi hpre hR hI K hK => ?_) ?_
    · exact J_alloc rfl _ rfl (al_int W) (hK _ _ { hI with kp := below_trans hI.kp (below_alloc _ _), v9 := fun _ => ⟨_, rfl, hI.kp.size, fun _ => heap_alloc_new _ _, fun h => nfB hLi (hI.d10 h)⟩, d10 := fun _ => rfl })
    refine JSteps.cons (fun V Ld a W hLi hpre hR hI K hK => ?_) trivial
    · have p8 : Ld 8 = true := hpre 8 (List.mem_of_elem_eq_true (by kernel_rfl))
      have p9 : Ld 9 = true := hpre 9 (List.mem_of_elem_eq_true (by kernel_rfl))
      obtain ⟨m, e9, hm, hz, -⟩ := hI.v9 p9
      have f8 := (hR.ev 8 rfl rfl p8).trans (hI.v8 p8)
      have f9 := (hR.ev 9 rfl rfl p9).trans e9
      exact J_store rfl _ (.tmp 7) (.tmp 16) rfl (by rw [f8, f9]; exact st_int (hz hLi) _) (hK _ _ { hI with kp := hI.kp.setCell hm _, v9 := fun _ => ⟨m, e9, hm, fun h => (by cases h), fun _ => (hz hLi).set_ 0 _⟩, d10 := fun _ => p9 })
  case refine_3 =>
    intro V Ld w2 hLd hI
    obtain ⟨m, e9, hm, -, hmx⟩ := hI.v9 (hLd 9 (by decide))
    have hM := hmx (hLd 10 (by decide))
    have hb2 := hI.kp
    simp only [finL, putL, Act.put, Nat.reduceAdd]
    rw [e9]
    clear hmx hI hLd e9
    generalize V 0 = q0
    generalize V 1 = q1
    generalize V 2 = q2
    generalize V 3 = q3
    generalize V 4 = q4
    generalize V 5 = q5
    generalize V 6 = q6
    generalize V 7 = q7
    generalize V 8 = q8
    clear V
    have hG2 := HG.out.below hb2
    have HP2 := Lib.hid (HP.out.below hb2)
    have HR2 := Lib.hid (HR.out.below hb2)
    have HM := Lib.hid hM
    have HB2 := Lib.hid hb2
    have g0 := hG2.c0
    have g1 := hG2.c1
    have g2 := hG2.c2
    have g3 := hG2.c3
    have g4 := hG2.c4
    have hml := hM.lt
    clear hG2 hM hb2 p0
    have HO2 := Lib.hid (HO.out.below (below_trans HB1.out HB2.out))
    have HFN := Lib.hid (all1_fn p (moreI p b) w.heap.size m base w2 (by omega) (by omega) hmr HP2.out.c0 (HM.out.cell 0 (by simp)))
    go_wp2_with fail
    refine ((each_any _ _ _ base 1048576 _ _ _ _ Hb Hw ⟨gh, S, T, gkh, L⟩ w2 HO2.out enter_all1 HFN.out (fun x hx => ?_) (by have := HB1.out.size; have := HB2.out.size; omega) S1.out S2.out s3 (show S.length ≤ 100000 by omega) (show T.length ≤ 100000 by omega)).mono ?_)
    · rcases hx with rfl | rfl
      · exact ⟨by have := HP2.out.lt; exact this, fun hx => by have := (HBL.out _ hx).2; omega⟩
      · exact ⟨hml, fun hx => by have := (HBL.out _ hx).2; omega⟩
    rintro e w3 ⟨H1, H2, rfl, hO3, hi3, hb3⟩
    rw [HGG.out] at hO3
    have hgv : giftV (mapG (shS p (moreI p b)) ⟨gh, S, T, gkh, L⟩).h (slV A S.length ca) (slV B T.length cb) (mapG (shS p (moreI p b)) ⟨gh, S, T, gkh, L⟩).kh (slV C L.length cc) = giftV gh (slV A S.length ca) (slV B T.length cb) gkh (slV C L.length cc) := rfl
    rw [hgv]
    have hGh : GG.h = gh := by rw [← HGG.out]; rfl
    have hGk : GG.kh = gkh := by rw [← HGG.out]; rfl
    have hR3 := HR2.out.sav hb3 (fun hx => by have := (HBL.out _ hx).2; omega)
    have HF := Lib.hid (each_post (w := w) (bv := slV A S.length ca) (wv := slV B T.length cb) (kv := slV C L.length cc) GG hO3 hi3 (((Sav.of_below HB1.out).trans (Sav.of_below HB2.out)).trans hb3) (w.heap.size + 1 + 1) (by omega) (fun hx => by have := (HBL.out _ (hi3 _ hx)).2; omega))
    rw [hGh, hGk] at HF
    have HF2 := Lib.hid (hR3.fill gh (slV A S.length ca) (slV B T.length cb) gkh (slV C L.length cc))
    have r0 := hR3.c0
    have r1 := hR3.c1
    have r2 := hR3.c2
    have r3 := hR3.c3
    have r4 := hR3.c4
    have f0 := hR3.frozen 0
    have f1 := hR3.frozen 1
    have f2 := hR3.frozen 2
    have f3 := hR3.frozen 3
    have f4 := hR3.frozen 4
    clear hO3 hi3 hb3 hgv hGh hGk hR3 g0 g1 g2 g3 g4
    go_wp2_with fail
    exact bodyPost_ret (results_gift rfl _ _ (w.heap.size + 1 + 1) rfl HF2.out) rfl HF.out
end Go.Proofs.YtjckpammcgeloaaDoor
namespace Go.Proofs.YtjckpammcgeloaaDoor
open Go.RowKit

def fstV (p : Nat) (L : List Int) : List Int := L.set 0 (shv p 1 (nth L 0))
theorem fstV_len (p : Nat) (L : List Int) : (fstV p L).length = L.length := by simp [fstV]
def valB (p : Nat) (b : Int) (S : List Shr) : List Shr := S.set (plI b S.length).toNat (hS S (plI b S.length).toNat, fstV p (vS S (plI b S.length).toNat))
theorem valB_nil (p : Nat) (b : Int) {S : List Shr} (h : S.length = 0) : valB p b S = S := by
  have : S = [] := List.eq_nil_of_length_eq_zero h
  subst this; rfl
theorem valB_at {p : Nat} {b : Int} {S : List Shr} {k : Nat} (hk : plI b S.length = (k : Int)) : valB p b S = S.set k (hS S k, fstV p (vS S k)) := by
  unfold valB; rw [hk, Int.toNat_natCast]
theorem sset_self {S : List Shr} {k : Nat} : S.set k (hS S k, vS S k) = S := by
  refine List.ext_getElem (by simp) fun i h1 h2 => ?_
  by_cases hi : k = i
  · subst hi; simp [hS, vS, List.getD_eq_getElem?_getD, h2]
  · simp [hi]
theorem valB_self {p : Nat} {b : Int} {S : List Shr} {k : Nat} (hk : plI b S.length = (k : Int)) (h0 : (vS S k).length = 0) : valB p b S = S := by
  rw [valB_at hk]
  have : vS S k = [] := List.eq_nil_of_length_eq_zero h0
  have e : fstV p (vS S k) = vS S k := by rw [this]; rfl
  rw [e, sset_self]
theorem valB_len (p : Nat) (b : Int) (S : List Shr) : (valB p b S).length = S.length := by simp [valB]
def valG (p : Nat) (b : Int) (G : GiftD) : GiftD := ⟨G.h, valB p b G.bx, G.wh, G.kh, G.kv⟩

theorem OwnG.val {W w2 : World} {base g c k : Nat} {wv kv : Value} {Hb Hw : List HV} {gh gkh : Int} {S T : List Shr} {L L' : List Int} (h : OwnG W base (.slice (some ⟨g, 0, none⟩) Hb.length c) wv kv Hb Hw ⟨gh, S, T, gkh, L⟩) (hk : k < S.length) (hs : Sav (fun b => (hvAt Hb k).2.ownBlock = some b) W w2) (hr : w2.ownsRow base 3 1 (hvAt Hb k).2 L'.length (valsI L')) :
    OwnG w2 base (.slice (some ⟨g, 0, none⟩) Hb.length c) wv kv (Hb.set k (hS S k, (hvAt Hb k).2)) Hw ⟨gh, S.set k (hS S k, L'), T, gkh, L⟩ ∧ (∀ x, blkV (.slice (some ⟨g, 0, none⟩) Hb.length c) (Hb.set k (hS S k, (hvAt Hb k).2)) x → blkV (.slice (some ⟨g, 0, none⟩) Hb.length c) Hb x) ∧ Sav (blkV (.slice (some ⟨g, 0, none⟩) Hb.length c) Hb) W w2 := by
  have hl : Hb.length = S.length := h.sb.len
  have hkH : k < Hb.length := by omega
  have hs' : Sav (blkV (.slice (some ⟨g, 0, none⟩) Hb.length c) Hb) W w2 := hs.mono fun b _ hb => .inr ⟨k, hkH, hb⟩
  have hi : ∀ x, blkV (.slice (some ⟨g, 0, none⟩) Hb.length c) (Hb.set k (hS S k, (hvAt Hb k).2)) x → blkV (.slice (some ⟨g, 0, none⟩) Hb.length c) Hb x := fun x hx => (blkV_set hkH).1 hx
  obtain ⟨g', c', e, hg, -, -, -, hcell, -⟩ := h.sb.out.form (by omega)
  injection e with e1 e2 e3
  injection e1 with e1
  injection e1 with e1
  subst e1
  have q0 := (hcell k hkH).1
  rw [h.sb.hold k hk] at q0
  have hne : (hvAt Hb k).2.ownBlock ≠ some g := fun e => h.sb.no k hk g e rfl
  have h1 := h.sb.chg (k := k) hk (Chg.nums hs hr hne hg q0)
  exact ⟨⟨h1, h.sw.sav hs' (fun b hb hx => h.bw b hx hb), own_sav h.sk hs' (fun b hb hx => h.bk b hx hb), fun x hx => h.bw x (hi x hx), fun x hx => h.bk x (hi x hx), h.wk⟩, hi, hs'⟩
theorem own_fst {w : World} {base vb c : Nat} {p : Nat} {L : List Int} (h : w.ownsRow base 3 1 (.slice (some ⟨vb, 0, none⟩) L.length c) L.length (valsI L)) (h0 : 0 < L.length) :
    (w.setCell ⟨vb, 0, none⟩ (.int .i64 (shv p 1 (nth L 0)))).ownsRow base 3 1 (.slice (some ⟨vb, 0, none⟩) L.length c) (fstV p L).length (valsI (fstV p L)) := by
  rw [fstV_len]; exact own_set h rfl 0 h0 _

set_option maxRecDepth 100000 in
set_option maxHeartbeats 8000000 in
theorem value_any (p : Nat) (n h b : Int) (base : Nat) (bv wv kv : Value) (Hb Hw : List HV) (G : GiftD) (w : World) (hO : OwnG w base bv wv kv Hb Hw G) (sG : GSmall G) (hp : 2 ≤ p) (hp2 : p ≤ 1073741824) :
    Calls Tryd.prog 38 #[planV p n h, giftV G.h bv wv G.kh kv, .int .i64 b] w (EachP (blkG bv wv kv Hb Hw) base bv wv kv (valG p b G) w) := by
  have HO := Lib.hid hO
  obtain ⟨s1, s2, s3, s4, s5⟩ := sG
  have S1 := Lib.hid s1
  obtain ⟨A, ca, hbv⟩ := row_slice hO.sb
  obtain ⟨B, cb, hwv⟩ := row_slice hO.sw
  obtain ⟨C, cc, hkv, -⟩ := own_ints hO.sk rfl
  have HBL := Lib.hid (fun x (hx : blkG bv wv kv Hb Hw x) => hO.blk hx)
  clear hO s1 s2 s3 s5
  obtain ⟨gh, S, T, gkh, L⟩ := G
  simp only at *
  subst hbv; subst hwv; subst hkv
  by_cases hn : S.length = 0
  · have HV := Lib.hid (show valG p b ⟨gh, S, T, gkh, L⟩ = ⟨gh, S, T, gkh, L⟩ by unfold valG; simp only [valB_nil p b hn])
    rw [HV.out]
    have t1 : decide (0 < S.length) = false := decide_eq_false (by omega)
    clear hn HV
    go_enter Tryd.func38, Tryd.ntmps38
    go_upto_region 1 with fail
    refine gen_world fun w1 hw1 => ?_
    have hP : PlanCell w1 w.heap.size p n h := by rw [hw1]; exact ((PlanCell.new _ _ _ rfl).alloc _).alloc _
    have hG : GiftCell w1 (w.heap.size + 1) gh (.slice A S.length ca) (.slice B T.length cb) gkh (.slice C L.length cc) := by rw [hw1]; exact (GiftCell.new _ _ _ _ _ (by simp)).alloc _
    have hR : GiftCell w1 (w.heap.size + 1 + 1) 0 (.slice none 0 0) (.slice none 0 0) 0 (.slice none 0 0) := by rw [hw1]; exact GiftCell.new _ _ _ _ _ (by simp)
    have hb1 : Below w.heap.size w w1 := by rw [hw1]; exact bl_alloc _ (bl_alloc _ (below_alloc _ _))
    clear hw1
    have HP := Lib.hid hP
    have HG := Lib.hid hG
    have HR := Lib.hid hR
    have HB1 := Lib.hid hb1
    have hz1 := hb1.size
    clear hP hG hR hb1
    have HG2 := HG
    have HR2 := HR
    have HF := Lib.hid (each_post (w := w) (bv := (slV A S.length ca)) (wv := slV B T.length cb) (kv := slV C L.length cc) ⟨gh, S, T, gkh, L⟩ (HO.out.below HB1.out) (fun x hx => hx) (Sav.of_below HB1.out) (w.heap.size + 1 + 1) (by omega) (fun hx => by have := (HBL.out _ ((fun x hx => hx) _ hx)).2; omega))
    have HF2 := Lib.hid (HR2.out.fill gh (slV A S.length ca) (slV B T.length cb) gkh (slV C L.length cc))
    have g0 := HG2.out.c0
    have g1 := HG2.out.c1
    have g2 := HG2.out.c2
    have g3 := HG2.out.c3
    have g4 := HG2.out.c4
    have r0 := HR2.out.c0
    have r1 := HR2.out.c1
    have r2 := HR2.out.c2
    have r3 := HR2.out.c3
    have r4 := HR2.out.c4
    have f0 := HR2.out.frozen 0
    have f1 := HR2.out.frozen 1
    have f2 := HR2.out.frozen 2
    have f3 := HR2.out.frozen 3
    have f4 := HR2.out.frozen 4
    go_wp2_with fail
    exact bodyPost_ret (results_gift rfl _ _ (w.heap.size + 1 + 1) rfl HF2.out) rfl HF.out
  · have hm1 : (1 : Int) ≤ (S.length : Int) := by omega
    have hm2 : (S.length : Int) ≤ 4611686018427387904 := by omega
    have hpr := plI_rng hm1 b
    obtain ⟨k, hk⟩ : ∃ k : Nat, plI b S.length = (k : Int) := ⟨(plI b S.length).toNat, by omega⟩
    rw [hk] at hpr
    have hkS : k < S.length := by omega
    have t1 : decide (0 < S.length) = true := decide_eq_true (by omega)
    have HPL := Lib.hid (fun W => place_pl b S.length W hm1 hm2)
    rw [hk] at HPL
    have hHl : Hb.length = S.length := HO.out.sb.len
    obtain ⟨g, c, e, hg, hbg, hlc, hcm, -, -⟩ := HO.out.sb.out.form (by omega)
    injection e with e1 e2 e3
    subst e1; subst e3
    clear e2
    have HHL := Lib.hid hHl
    have i0 : (0 : Int) ≤ (k : Int) := by omega
    have i1 : (k : Int) < (S.length : Int) := by omega
    have hlk := S1.out k hkS
    clear hHl
    by_cases h0 : (vS S k).length = 0
    · have HV := Lib.hid (show valG p b ⟨gh, S, T, gkh, L⟩ = ⟨gh, S, T, gkh, L⟩ by unfold valG; simp only [valB_self hk h0])
      rw [HV.out]
      have t2 : decide (0 < (vS S k).length) = false := decide_eq_false (by omega)
      clear hn hk h0 HV
      go_enter Tryd.func38, Tryd.ntmps38
      go_wp2_with fail
      refine gen_world fun w1 hw1 => ?_
      have hP : PlanCell w1 w.heap.size p n h := by rw [hw1]; exact ((PlanCell.new _ _ _ rfl).alloc _).alloc _
      have hG : GiftCell w1 (w.heap.size + 1) gh (.slice (some ⟨g, 0, none⟩) S.length ca) (.slice B T.length cb) gkh (.slice C L.length cc) := by rw [hw1]; exact (GiftCell.new _ _ _ _ _ (by simp)).alloc _
      have hR : GiftCell w1 (w.heap.size + 1 + 1) 0 (.slice none 0 0) (.slice none 0 0) 0 (.slice none 0 0) := by rw [hw1]; exact GiftCell.new _ _ _ _ _ (by simp)
      have hb1 : Below w.heap.size w w1 := by rw [hw1]; exact bl_alloc _ (bl_alloc _ (below_alloc _ _))
      clear hw1
      have HP := Lib.hid hP
      have HG := Lib.hid hG
      have HR := Lib.hid hR
      have HB1 := Lib.hid hb1
      have hz1 := hb1.size
      clear hP hG hR hb1
      have HO2 := Lib.hid (HO.out.below HB1.out)
      obtain ⟨g', c', e, -, -, -, -, hcell, -⟩ := HO2.out.sb.out.form (by have := HHL.out; omega)
      injection e with e1 e2 e3
      injection e1 with e1
      injection e1 with e1
      subst e1; subst e3
      have q1 := (hcell k (by have := HHL.out; omega)).2
      obtain ⟨D, dc, hv, -⟩ := own_ints (HO2.out.sb.row k hkS) rfl
      rw [hv] at q1
      have g1 := HG.out.c1
      have p0 := HP.out.c0
      generalize (vS S k).length = lk at *
      clear e2 hcell hv
      go_quiet ((go_at_call 55; exact Calls.quiet_of_same (HPL.out _)))
      clear g1 p0 q1
      obtain ⟨w2, hw2⟩ : ∃ w2 : World, w2 = w1.drewN nq := ⟨_, rfl⟩
      have hb2 : Below w1.heap.size w1 w2 := by rw [hw2]; exact below_drewN (Below.refl _ _) _
      rw [← hw2]
      clear hw2
      have HG2 := Lib.hid (HG.out.below hb2)
      have HR2 := Lib.hid (HR.out.below hb2)
      have HB2 := Lib.hid (below_trans HB1.out hb2)
      clear hb2
      have HF := Lib.hid (each_post (w := w) (bv := (slV (some ⟨g, 0, none⟩) S.length ca)) (wv := slV B T.length cb) (kv := slV C L.length cc) ⟨gh, S, T, gkh, L⟩ (HO.out.below HB2.out) (fun x hx => hx) (Sav.of_below HB2.out) (w.heap.size + 1 + 1) (by omega) (fun hx => by have := (HBL.out _ ((fun x hx => hx) _ hx)).2; omega))
      have HF2 := Lib.hid (HR2.out.fill gh (slV (some ⟨g, 0, none⟩) S.length ca) (slV B T.length cb) gkh (slV C L.length cc))
      have g0 := HG2.out.c0
      have g1 := HG2.out.c1
      have g2 := HG2.out.c2
      have g3 := HG2.out.c3
      have g4 := HG2.out.c4
      have r0 := HR2.out.c0
      have r1 := HR2.out.c1
      have r2 := HR2.out.c2
      have r3 := HR2.out.c3
      have r4 := HR2.out.c4
      have f0 := HR2.out.frozen 0
      have f1 := HR2.out.frozen 1
      have f2 := HR2.out.frozen 2
      have f3 := HR2.out.frozen 3
      have f4 := HR2.out.frozen 4
      go_wp2_with fail
      exact bodyPost_ret (results_gift rfl _ _ (w.heap.size + 1 + 1) rfl HF2.out) rfl HF.out
    · have HV := Lib.hid (show valG p b ⟨gh, S, T, gkh, L⟩ = ⟨gh, S.set k (hS S k, fstV p (vS S k)), T, gkh, L⟩ by unfold valG; simp only [valB_at hk])
      rw [HV.out]
      have hv0 : 0 < (vS S k).length := by omega
      have t2 : decide (0 < (vS S k).length) = true := decide_eq_true hv0
      clear hn hk h0 HV
      go_enter Tryd.func38, Tryd.ntmps38
      go_wp2_with fail
      refine gen_world fun w1 hw1 => ?_
      have hP : PlanCell w1 w.heap.size p n h := by rw [hw1]; exact ((PlanCell.new _ _ _ rfl).alloc _).alloc _
      have hG : GiftCell w1 (w.heap.size + 1) gh (.slice (some ⟨g, 0, none⟩) S.length ca) (.slice B T.length cb) gkh (.slice C L.length cc) := by rw [hw1]; exact (GiftCell.new _ _ _ _ _ (by simp)).alloc _
      have hR : GiftCell w1 (w.heap.size + 1 + 1) 0 (.slice none 0 0) (.slice none 0 0) 0 (.slice none 0 0) := by rw [hw1]; exact GiftCell.new _ _ _ _ _ (by simp)
      have hb1 : Below w.heap.size w w1 := by rw [hw1]; exact bl_alloc _ (bl_alloc _ (below_alloc _ _))
      clear hw1
      have HP := Lib.hid hP
      have HG := Lib.hid hG
      have HR := Lib.hid hR
      have HB1 := Lib.hid hb1
      have hz1 := hb1.size
      clear hP hG hR hb1
      have HO2 := Lib.hid (HO.out.below HB1.out)
      obtain ⟨g', c', e, -, -, -, -, hcell, -⟩ := HO2.out.sb.out.form (by have := HHL.out; omega)
      injection e with e1 e2 e3
      injection e1 with e1
      injection e1 with e1
      subst e1; subst e3
      have q1 := (hcell k (by have := HHL.out; omega)).2
      have hrow := HO2.out.sb.row k hkS
      obtain ⟨vb, dc, hv, hvb, -, -, -, hvc, hvf⟩ := own_blk hrow rfl hv0
      rw [hv] at q1
      have v0 := hvc 0 hv0
      have vf := hvf 0
      have HNE := Lib.hid (show vb ≠ w.heap.size ∧ vb ≠ w.heap.size + 1 ∧ vb ≠ w.heap.size + 1 + 1 ∧ blkV (.slice (some ⟨g, 0, none⟩) Hb.length ca) Hb vb from by
        have hb : blkV (.slice (some ⟨g, 0, none⟩) S.length ca) Hb vb := .inr ⟨k, by have := HHL.out; omega, by rw [hv]; rfl⟩
        have := (HBL.out vb (.inl hb)).2
        exact ⟨by omega, by omega, by omega, by rw [HHL.out]; exact hb⟩)
      have HSET := Lib.hid (fun W (hb : Below w1.heap.size w1 W) => show OwnG (W.setCell ⟨vb, 0, none⟩ (.int .i64 (shv p 1 (nth (vS S k) 0)))) base (.slice (some ⟨g, 0, none⟩) Hb.length ca) (.slice B T.length cb) (.slice C L.length cc) (Hb.set k (hS S k, (hvAt Hb k).2)) Hw ⟨gh, S.set k (hS S k, fstV p (vS S k)), T, gkh, L⟩ ∧ (∀ x, blkV (.slice (some ⟨g, 0, none⟩) Hb.length ca) (Hb.set k (hS S k, (hvAt Hb k).2)) x → blkV (.slice (some ⟨g, 0, none⟩) Hb.length ca) Hb x) ∧ Sav (blkV (.slice (some ⟨g, 0, none⟩) Hb.length ca) Hb) W (W.setCell ⟨vb, 0, none⟩ (.int .i64 (shv p 1 (nth (vS S k) 0)))) from by
        have hO3 := HO2.out.below hb
        have hr3 := hO3.sb.row k hkS
        refine OwnG.val (by rw [HHL.out]; exact hO3) hkS (Sav.set _ _ _ (by rw [hv]; rfl)) ?_
        rw [hv] at hr3 ⊢
        exact own_fst hr3 hv0)
      rw [HHL.out] at HSET
      have hx1 := emI_rng (p := p) (by omega) (nth (vS S k) 0)
      have HE := Lib.hid (show faI p (emI p (nth (vS S k) 0)) 1 = shv p 1 (nth (vS S k) 0) from rfl)
      generalize hxx : nth (vS S k) 0 = x at *
      generalize hLL : vS S k = LL at *
      have g1 := HG.out.c1
      have p0 := HP.out.c0
      clear e2 hcell hv hrow hvc hvf hxx hLL
      go_quiet ((go_at_call 55; exact Calls.quiet_of_same (HPL.out _)))
      obtain ⟨w2, hw2⟩ : ∃ w2 : World, w2 = w1.drewN nq := ⟨_, rfl⟩
      have hb2 : Below w1.heap.size w1 w2 := by rw [hw2]; exact below_drewN (Below.refl _ _) _
      rw [← hw2]
      clear hw2
      have v02 := (hb2.cell (p := ⟨vb, 0, none⟩) hvb).trans v0
      have vf2 := (hb2.frozen (p := ⟨vb, 0, none⟩) hvb).trans vf
      have p02 := (HP.out.below hb2).c0
      have HB2 := Lib.hid hb2
      clear g1 p0 q1 v0 vf hb2
      go_wp2_with fail
      refine wp_region_still_tail 11 (by kernel_rfl) (by kernel_rfl) ?_
      simp only [List.take_succ_cons, List.take_zero, List.drop_succ_cons, List.drop_zero]
      repeat still_step
      still_call (elemP_any p x _ (by omega) (by omega))
      repeat still_step
      still_call (addP_any p (emI p x) 1 _ (by omega) (by omega) hx1 ⟨by omega, by omega⟩)
      repeat still_step
      refine wpStill_nil ?_
      rw [HE.out]
      go_upto_region 6 with fail
      refine gen_world fun w3 hw3 => ?_
      have hss : Sav (fun b => b = vb) w2.drew w3 := by rw [hw3]; exact Sav.set (X := fun b => b = vb) _ ⟨vb, 0, none⟩ _ rfl
      have HG2 := Lib.hid ((HG.out.below (show Below w1.heap.size w1 w2.drew from HB2.out.drew)).sav hss (fun e => HNE.out.2.1 e.symm))
      have HR2 := Lib.hid ((HR.out.below (show Below w1.heap.size w1 w2.drew from HB2.out.drew)).sav hss (fun e => HNE.out.2.2.1 e.symm))
      have hx3 := HSET.out w2.drew HB2.out.drew
      have hw3' : w3 = w2.drew.setCell ⟨vb, 0, none⟩ (.int .i64 (shv p 1 x)) := hw3
      rw [← hw3'] at hx3
      have HO3 := Lib.hid hx3.1
      have HI3 := Lib.hid hx3.2.1
      have HS3 := Lib.hid (show Sav (blkG (.slice (some ⟨g, 0, none⟩) S.length ca) (.slice B T.length cb) (.slice C L.length cc) Hb Hw) w w3 from ((Sav.of_below HB1.out).trans (Sav.of_below HB2.out.drew)).trans (hx3.2.2.mono fun x _ hx => .inl hx))
      clear hss hw3' hx3 hw3 p02 v02 vf2 HSET HE
      have HF := Lib.hid (each_post (w := w) (bv := (slV (some ⟨g, 0, none⟩) S.length ca)) (wv := slV B T.length cb) (kv := slV C L.length cc) ⟨gh, S.set k (hS S k, fstV p LL), T, gkh, L⟩ HO3.out (fun x hx => hx.elim (fun hx => .inl (HI3.out x hx)) .inr) HS3.out (w.heap.size + 1 + 1) (by omega) (fun hx => by
        rcases hx with hx | hx
        · have := (HBL.out _ (.inl (HI3.out _ hx))).2; omega
        · have := (HBL.out _ (.inr hx)).2; omega))
      have HF2 := Lib.hid (HR2.out.fill gh (slV (some ⟨g, 0, none⟩) S.length ca) (slV B T.length cb) gkh (slV C L.length cc))
      have g0 := HG2.out.c0
      have g1 := HG2.out.c1
      have g2 := HG2.out.c2
      have g3 := HG2.out.c3
      have g4 := HG2.out.c4
      have r0 := HR2.out.c0
      have r1 := HR2.out.c1
      have r2 := HR2.out.c2
      have r3 := HR2.out.c3
      have r4 := HR2.out.c4
      have f0 := HR2.out.frozen 0
      have f1 := HR2.out.frozen 1
      have f2 := HR2.out.frozen 2
      have f3 := HR2.out.frozen 3
      have f4 := HR2.out.frozen 4
      go_wp2_with fail
      exact bodyPost_ret (results_gift rfl _ _ (w.heap.size + 1 + 1) rfl HF2.out) rfl HF.out
end Go.Proofs.YtjckpammcgeloaaDoor
namespace Go.Proofs.YtjckpammcgeloaaDoor
open Go.RowKit

theorem modE (p : Nat) (x : Int) (w : World) (hp : 1 ≤ p) (hp2 : p ≤ 2147483648) : Calls Tryd.prog 46 #[.int .i64 x, .int .i64 p] w (Ret (.int .i64 (emI p x)) w) := refMod_any x p w (by omega) (by omega)
theorem modF (p : Nat) (a b : Int) (w : World) (hp : 1 ≤ p) (hp2 : p ≤ 2147483648) : Calls Tryd.prog 46 #[.int .i64 (a + b), .int .i64 p] w (Ret (.int .i64 (faI p a b)) w) := refMod_any (a + b) p w (by omega) (by omega)
theorem hv2_set {H : List HV} {k : Nat} {x : Int} (hk : k < H.length) : ∀ i, (hvAt (H.set k (x, (hvAt H k).2)) i).2 = (hvAt H i).2 := fun i => by
  by_cases hjk : k = i
  · subst hjk; rw [hvAt_set_same _ _ _ hk]
  · rw [hvAt_set_other _ _ _ _ hjk]
theorem RowsI.val_at {w : World} {base g c vb c' k j : Nat} {H : List HV} {U : List Shr} {x : Int} {M : List Int} (h : RowsI w base (.slice (some ⟨g, 0, none⟩) H.length c) H (U.set k (x, M))) (hk : k < U.length) (hb : (hvAt H k).2 = .slice (some ⟨vb, 0, none⟩) M.length c') (hj : j < M.length) (y : Int) :
    RowsI (w.setCell ⟨vb, j, none⟩ (.int .i64 y)) base (.slice (some ⟨g, 0, none⟩) H.length c) (H.set k (x, (hvAt H k).2)) (U.set k (x, M.set j y)) ∧ (∀ z, blkV (.slice (some ⟨g, 0, none⟩) H.length c) (H.set k (x, (hvAt H k).2)) z → blkV (.slice (some ⟨g, 0, none⟩) H.length c) H z) ∧
      Sav (blkV (.slice (some ⟨g, 0, none⟩) H.length c) H) w (w.setCell ⟨vb, j, none⟩ (.int .i64 y)) ∧ ∀ i, (hvAt (H.set k (x, (hvAt H k).2)) i).2 = (hvAt H i).2 := by
  have hl : H.length = U.length := by have := h.len; simpa using this
  have hkU : k < (U.set k (x, M)).length := by simpa using hk
  have hob : (hvAt H k).2.ownBlock = some vb := by rw [hb]; rfl
  have hs : Sav (fun b => (hvAt H k).2.ownBlock = some b) w (w.setCell ⟨vb, j, none⟩ (.int .i64 y)) := Sav.set _ _ _ hob
  have hr := h.row k hkU
  rw [(sset_at hk).2] at hr
  have hr2 : (w.setCell ⟨vb, j, none⟩ (.int .i64 y)).ownsRow base 3 1 (hvAt H k).2 (M.set j y).length (valsI (M.set j y)) := by
    rw [hb] at hr ⊢
    rw [List.length_set]
    exact own_set hr rfl j hj y
  obtain ⟨g', c2, e, hg, -, -, -, hcell, -⟩ := h.out.form (by omega)
  injection e with e1 e2 e3
  injection e1 with e1
  injection e1 with e1
  subst e1
  have q0 := (hcell k (by omega)).1
  rw [h.hold k hkU, (sset_at hk).1] at q0
  have hne : (hvAt H k).2.ownBlock ≠ some g := fun e => h.no k hkU g e rfl
  have h1 := h.chg (k := k) hkU (Chg.nums hs hr2 hne hg q0)
  rw [List.set_set] at h1
  exact ⟨h1, fun z hz => (blkV_set (by omega)).1 hz, hs.mono fun b _ hb2 => .inr ⟨k, by omega, hb2⟩, hv2_set (by omega)⟩
theorem mapK_self {f : Shr → Shr} {S : List Shr} {k : Nat} (hk : k < S.length) : (mapK f S k).set k (hS S k, vS S k) = mapK f S k := by
  have := @sset_self (mapK f S k) k
  rwa [(mapK_at hk).1, (mapK_at hk).2] at this

set_option maxRecDepth 100000 in
set_option maxHeartbeats 8000000 in
theorem shift_any (p : Nat) (c : Int) (base : Nat) (v : Value) (H : List HV) (S : List Shr) (w : World) (hR : RowsI w base v H S) (hsh : Short S) (hl : S.length ≤ 100000) (hp : 1 ≤ p) (hp2 : p ≤ 2147483648) (hc : 0 ≤ c ∧ c ≤ p) :
    Calls Tryd.prog 47 #[.int .i64 p, v, .int .i64 c] w (fun e w' => ∃ H', e = .returned (.tuple #[]) ∧ RowsI w' base v H' (S.map (shS p c)) ∧ (∀ x, blkV v H' x → blkV v H x) ∧ Sav (blkV v H) w w' ∧ ∀ i, (hvAt H' i).2 = (hvAt H i).2) := by
  have HR := Lib.hid hR
  have HSH := Lib.hid hsh
  obtain ⟨A, ca, rfl⟩ := row_slice hR
  have hl0 := hR.len
  have HL0 := Lib.hid hl0
  obtain ⟨hc0, hcp⟩ := hc
  clear hR hsh hl0
  go_enter Tryd.func47, Tryd.ntmps47
  go_wp2_with fail
  go_loopw [6] (fun i wr => ∃ (k : Nat) (H' : List HV), k ≤ S.length ∧ i = .int .i64 k ∧ RowsI wr base (.slice A S.length ca) H' (mapK (shS p c) S k) ∧ (∀ x, blkV (.slice A S.length ca) H' x → blkV (.slice A S.length ca) H x) ∧ Sav (blkV (.slice A S.length ca) H) w wr ∧ ∀ i, (hvAt H' i).2 = (hvAt H i).2) (fun i _ => S.length - (intOf i).toNat)
  case atStart => exact ⟨0, H, Nat.zero_le _, rfl, by rw [mapK_zero]; exact HR.out, fun x h => h, Sav.refl _ _, fun _ => rfl⟩
  case round =>
    obtain ⟨k, H1, hk, rfl, hR1, hI1, hS1, hV1⟩ := hrel
    have HV1 := Lib.hid hV1
    clear hV1
    have HR1 := Lib.hid hR1
    have HI1 := Lib.hid hI1
    have HS1 := Lib.hid hS1
    clear hR1 hI1 hS1
    by_cases hlt : k < S.length
    · have HK0 := Lib.hid (show RowsI wr base (.slice A S.length ca) H1 ((mapK (shS p c) S k).set k (hS S k, shvK p c (vS S k) 0)) from by rw [shvK_zero, mapK_self hlt]; exact HR1.out)
      have HKN := Lib.hid (show (mapK (shS p c) S k).set k (hS S k, shvK p c (vS S k) (vS S k).length) = mapK (shS p c) S (k + 1) from by rw [shvK_all]; exact mapK_set (f := shS p c) hlt)
      have hkU : k < (mapK (shS p c) S k).length := by rw [mapK_len]; exact hlt
      have HUL := Lib.hid (mapK_len (shS p c) S k)
      have hlk := HSH.out k hlt
      generalize mapK (shS p c) S k = U at *
      generalize hS S k = x at *
      generalize vS S k = M at *
      have i0 : (0 : Int) ≤ (k : Int) := by omega
      have i1 : (k : Int) < (S.length : Int) := by omega
      go_wp2_with fail
      obtain ⟨w1, hw1⟩ : ∃ w1 : World, w1 = wr := ⟨_, rfl⟩
      subst hw1
      go_loopw [7] (fun i wr => ∃ (j : Nat) (H' : List HV), j ≤ M.length ∧ i = .int .i64 j ∧ RowsI wr base (.slice A S.length ca) H' (U.set k (x, shvK p c M j)) ∧ (∀ x, blkV (.slice A S.length ca) H' x → blkV (.slice A S.length ca) H x) ∧ Sav (blkV (.slice A S.length ca) H) w wr ∧ ∀ i, (hvAt H' i).2 = (hvAt H i).2) (fun i _ => M.length - (intOf i).toNat)
      case atStart => exact ⟨0, H1, Nat.zero_le _, rfl, HK0.out, HI1.out, HS1.out, HV1.out⟩
      case round =>
        obtain ⟨j, H2, hj, rfl, hR2, hI2, hS2, hV2⟩ := hrel
        have HV2 := Lib.hid hV2
        clear hV2
        have hl2 : H2.length = S.length := by have := hR2.len; rw [List.length_set] at this; exact this.trans HUL.out
        obtain ⟨g, c3, e, hg, hbg, hlc, hcm, hcell, hfr⟩ := hR2.out.form (by omega)
        injection e with e1 e2 e3
        subst e1; subst e3
        have q1 := (hcell k (by omega)).2
        have hrow := hR2.row k (by rw [List.length_set]; exact hkU)
        rw [(sset_at hkU).2, shvK_len] at hrow
        have HR2 := Lib.hid hR2
        have HI2 := Lib.hid hI2
        have HS2 := Lib.hid hS2
        have HL2 := Lib.hid hl2
        by_cases hjl : j < M.length
        · obtain ⟨vb, vc, hv, hvb, -, -, -, hvc, hvf⟩ := own_blk hrow (by rw [shvK_len]) (by rw [shvK_len]; omega)
          have v0 := hvc j (by rw [shvK_len]; exact hjl)
          rw [shvK_at hjl] at v0
          have vf := hvf j
          rw [hv] at q1
          have HST := Lib.hid (fun W (hb : Below wr.heap.size wr W) => show RowsI (W.setCell ⟨vb, j, none⟩ (.int .i64 (shv p c (nth M j)))) base (.slice (some ⟨g, 0, none⟩) S.length ca) (H2.set k (x, (hvAt H2 k).2)) (U.set k (x, shvK p c M (j + 1))) ∧ (∀ z, blkV (.slice (some ⟨g, 0, none⟩) S.length ca) (H2.set k (x, (hvAt H2 k).2)) z → blkV (.slice (some ⟨g, 0, none⟩) S.length ca) H2 z) ∧
              Sav (blkV (.slice (some ⟨g, 0, none⟩) S.length ca) H2) W (W.setCell ⟨vb, j, none⟩ (.int .i64 (shv p c (nth M j)))) ∧ (∀ i, (hvAt (H2.set k (x, (hvAt H2 k).2)) i).2 = (hvAt H2 i).2) from by
            have := RowsI.val_at (w := W) (vb := vb) (c' := vc) (j := j) (by rw [HL2.out]; exact HR2.out.below hb) hkU (by rw [hv, shvK_len]) (by rw [shvK_len]; exact hjl) (shv p c (nth M j))
            rw [shvK_set hjl, HL2.out] at this
            exact this)
          have hx1 := emI_rng hp (nth M j)
          have HE := Lib.hid (show faI p (emI p (nth M j)) c = shv p c (nth M j) from rfl)
          generalize hy : nth M j = y at *
          have hwr : IntKind.i64.wrap (emI p y + c) = emI p y + c := IntWalk.i64_in _ (by omega)
          have j0 : (0 : Int) ≤ (j : Int) := by omega
          have j1 : (j : Int) < (M.length : Int) := by omega
          clear e2 hcell hfr hrow hv hvc hvf hy hR2 hI2 hS2 hl2
          go_wp2_with fail
          refine wp_region_still_tail 21 (by kernel_rfl) (by kernel_rfl) ?_
          simp only [List.take_succ_cons, List.take_zero, List.drop_succ_cons, List.drop_zero]
          repeat still_step
          still_call (modE p y _ hp hp2)
          repeat still_step
          still_call (modF p (emI p y) c _ hp hp2)
          repeat still_step
          refine wpStill_nil ?_
          rw [HE.out]
          have HN := Lib.hid (HST.out wr.drew (Below.refl _ _).drew)
          clear HST hwr
          go_wp2_with fail
          go_roundw
          case rel => exact ⟨j + 1, _, by omega, by go_num, HN.out.1, fun z hz => HI2.out z (HN.out.2.1 z hz), HS2.out.trans ((Sav.of_below (Below.refl _ _).drew).trans (HN.out.2.2.1.mono fun z _ hz => HI2.out z hz)), fun i => (HN.out.2.2.2 i).trans (HV2.out i)⟩
          case measure => simp [intOf]; omega
        · obtain rfl : j = M.length := by omega
          obtain ⟨D, dc, hv, -⟩ := own_ints (L := shvK p c M M.length) hrow (by rw [shvK_len])
          rw [hv, shvK_len] at q1
          clear e2 hcell hfr hrow hv hR2 hI2 hS2 hl2
          go_wp2_with fail
          go_roundw
          case rel => exact ⟨k + 1, H2, by omega, by go_num, by rw [← HKN.out]; exact HR2.out, HI2.out, HS2.out, HV2.out⟩
          case measure => simp [intOf]; omega
    · obtain rfl : k = S.length := by omega
      have HX := Lib.hid (show RowsI wr base (.slice A S.length ca) H1 (S.map (shS p c)) from by have := HR1.out; rwa [mapK_all] at this)
      go_wp2_with fail
      go_end0
      exact ⟨H1, rfl, HX.out, HI1.out, HS1.out, HV1.out⟩

def nameS (y : Int) (s : Shr) : Shr := (y, s.2)
set_option maxRecDepth 100000 in
set_option maxHeartbeats 8000000 in
theorem named_any {P : Nat → Prop} (y : Int) (A : Option Addr) (c : Nat) (S : List Shr) (w : World) (hS : ShP P w A c S) (hsh : Short S) (hl : S.length ≤ 100000) :
    Calls Tryd.prog 49 #[.slice A S.length c, .int .i64 y] w (CopyP (S.map (nameS y)) w) := by
  have HC := Lib.hid (copy_any A c S w hS hsh (by omega))
  clear hS hsh
  go_enter Tryd.func49, Tryd.ntmps49
  go_wp2_with fail
  refine HC.out.mono ?_
  rintro e w1 ⟨v, H, rfl, hR, hb1⟩
  obtain ⟨B, cb, rfl⟩ := row_slice hR
  have HR := Lib.hid hR
  have HB1 := Lib.hid hb1
  clear hR hb1
  go_wp2_with fail
  go_loopw [6] (fun i wr => ∃ (k : Nat) (H' : List HV), k ≤ S.length ∧ i = .int .i64 k ∧ RowsI wr w.heap.size (.slice B S.length cb) H' (mapK (nameS y) S k) ∧ Below w.heap.size w wr) (fun i _ => S.length - (intOf i).toNat)
  case atStart => exact ⟨0, H, Nat.zero_le _, rfl, by rw [mapK_zero]; exact HR.out, HB1.out⟩
  case round =>
    obtain ⟨k, H1, hk, rfl, hR1, hb⟩ := hrel
    by_cases hlt : k < S.length
    · have hl2 : H1.length = S.length := by have := hR1.len; rwa [mapK_len] at this
      obtain ⟨g, c3, e, hg, hbg, hlc, hcm, hcell, hfr⟩ := hR1.out.form (by omega)
      injection e with e1 e2 e3
      subst e1; subst e3
      have q0 := (hcell k (by omega)).1
      have qf := hfr (k * 2)
      have HN := Lib.hid (show RowsI (wr.setCell ⟨g, k * 2, none⟩ (.int .i64 y)) w.heap.size (.slice (some ⟨g, 0, none⟩) S.length cb) (H1.set k (y, (hvAt H1 k).2)) (mapK (nameS y) S (k + 1)) ∧ Below w.heap.size w (wr.setCell ⟨g, k * 2, none⟩ (.int .i64 y)) from by
        have := RowsI.hold_set (by rw [hl2]; exact hR1) k (by rw [mapK_len]; exact hlt) y
        rw [(mapK_at hlt).2, hl2] at this
        refine ⟨?_, hb.setCell hbg _⟩
        rw [← mapK_set hlt]; exact this)
      have i0 : (0 : Int) ≤ (k : Int) := by omega
      have i1 : (k : Int) < (S.length : Int) := by omega
      clear e2 hcell hfr hR1 hl2 hb
      go_wp2_with fail
      go_roundw
      case rel => exact ⟨k + 1, _, by omega, by go_num, HN.out.1, HN.out.2⟩
      case measure => simp [intOf]; omega
    · obtain rfl : k = S.length := by omega
      rw [mapK_all] at hR1
      have HX := Lib.hid hR1
      clear hR1
      go_wp2_with fail
      go_ret
      exact ⟨_, H1, rfl, HX.out, hb⟩
end Go.Proofs.YtjckpammcgeloaaDoor
