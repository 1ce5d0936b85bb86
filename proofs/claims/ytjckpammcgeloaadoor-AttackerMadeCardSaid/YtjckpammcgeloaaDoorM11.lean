/-
  law42's gift: the state of its loop.
  law42's gift: the walk.
  play.Of, Safe and Plan.
  Three gifts, made in a region that draws its order.
  AttackerOthers: the plain law, and what a made gift is in memory.
  A region that draws its order: each operation's value has a property of its own, which later worlds keep.
  Conditions: those that each theorem names.
-/
import Derived.Test.YtjckpammcgeloaaDoorM10
set_option linter.unusedVariables false
set_option linter.unusedSimpArgs false
namespace Go.Proofs.YtjckpammcgeloaaDoor
open Go.RowKit

structure GSt (w0 w : World) (D px gx : Nat) (R : List Int) (p : Nat) (n' h' h : Int) (v1 v2 : Value) (B3 : Option Addr) (c3 : Nat) (M : List Int) (N : Nat → Prop) (S T : List Shr) : Prop where
  dw : D < w0.heap.size
  wp : w0.heap.size ≤ px
  pg : px < gx
  sz : gx < w.heap.size
  hs : Sav (fun b => b = D) w0 w
  dice : DiceAt w D R
  plan : PlanCell w px p n' h'
  gc : GiftCell w gx h v1 v2 h (slV B3 M.length c3)
  r1 : RowsV N w (gx + 1) v1 S
  r2 : RowsV N w (gx + 1) v2 T
  ky : IntsP N w B3 c3 M
  nb : ∀ b, N b → px + 1 < b ∧ b ≠ gx ∧ b < w.heap.size ∧ v1.ownBlock ≠ some b ∧ v2.ownBlock ≠ some b
  ne : ∀ b, v1.ownBlock = some b → v2.ownBlock = some b → False
section
variable {w0 w w' : World} {D px gx : Nat} {R R' : List Int} {p : Nat} {n' h' h : Int} {v1 v2 : Value} {B3 : Option Addr} {c3 : Nat} {M : List Int} {N : Nat → Prop} {S T : List Shr}
theorem GSt.baseA (H : GSt w0 w D px gx R p n' h' h v1 v2 B3 c3 M N S T) : GBase w gx D px (gx + 1) R v1 (fun w v => GiftCell w gx h v v2 h (slV B3 M.length c3)) N S :=
  ⟨by have := H.dw; have := H.wp; omega, H.pg, by omega, by have := H.sz; omega, H.dice, H.r1, fun b hb => ⟨by have := (H.nb b hb).1; have := H.dw; have := H.wp; omega, (H.nb b hb).2.1, (H.nb b hb).2.2.1, (H.nb b hb).2.2.2.1⟩, H.gc⟩
theorem GSt.baseB (H : GSt w0 w D px gx R p n' h' h v1 v2 B3 c3 M N S T) : GBase w gx D px (gx + 1) R v2 (fun w v => GiftCell w gx h v1 v h (slV B3 M.length c3)) N T :=
  ⟨by have := H.dw; have := H.wp; omega, H.pg, by omega, by have := H.sz; omega, H.dice, H.r2, fun b hb => ⟨by have := (H.nb b hb).1; have := H.dw; have := H.wp; omega, (H.nb b hb).2.1, (H.nb b hb).2.2.1, (H.nb b hb).2.2.2.2⟩, H.gc⟩
/-- A region has put one share more onto the boxes. -/
theorem GSt.moreA (H : GSt w0 w D px gx R p n' h' h v1 v2 B3 c3 M N S T) {g c : Nat} {L : List Int} (hs : Sav (fun b => b = D ∨ b = gx ∨ v1.ownBlock = some b) w w') (hd : DiceAt w' D R')
    (hg : v1.ownBlock = some g ∨ w.heap.size ≤ g) (hc : GiftCell w' gx h (slV (some ⟨g, 0, none⟩) (S.length + 1) c) v2 h (slV B3 M.length c3))
    (hr : RowsV (fun b => N b ∨ w.heap.size ≤ b) w' (gx + 1) (slV (some ⟨g, 0, none⟩) (S.length + 1) c) (S ++ [(h, L)])) :
    GSt w0 w' D px gx R' p n' h' h (slV (some ⟨g, 0, none⟩) (S.length + 1) c) v2 B3 c3 M (fun b => (N b ∨ w.heap.size ≤ b) ∧ b < w'.heap.size ∧ b ≠ g) (S ++ [(h, L)]) T := by
  have hsz := hs.size
  have d1 := H.dw
  have d2 := H.wp
  have d3 := H.pg
  have d4 := H.sz
  have l1 := H.r1.lt
  have l2 := H.r2.lt
  have hX : ∀ b, N b → ¬ (b = D ∨ b = gx ∨ v1.ownBlock = some b) := fun b hb e => by
    have := H.nb b hb
    rcases e with e | e | e
    · omega
    · exact this.2.1 e
    · exact this.2.2.2.1 e
  have hNg : ∀ b, N b → b ≠ g := fun b hb e => by
    subst e
    rcases hg with e | e
    · exact (H.nb b hb).2.2.2.1 e
    · have := (H.nb b hb).2.2.1; omega
  have hv2g : v2.ownBlock ≠ some g := fun e => by
    rcases hg with e1 | e1
    · exact H.ne g e1 e
    · have := (l2 g e).2; omega
  have hk : Kept N w w' := hs.kept (fun b hb => hX b hb)
  refine ⟨H.dw, H.wp, H.pg, by omega, H.hs.trans2 hs (fun b e => ?_), hd, ?_, hc, hr.monoQ (fun b hb hq e => ⟨hq, hb, fun e2 => e (by rw [e2]; rfl)⟩), ?_, (H.ky.keep hk).mono (fun b hb hq => ⟨.inl hq, hb, hNg b hq⟩), fun b hb => ?_, fun b e1 e2 => ?_⟩
  · rcases e with e | e | e
    · exact .inl e
    · exact .inr (by omega)
    · exact .inr (by have := (l1 b e).1; omega)
  · exact (hs.block px (by omega) (fun e => by
      rcases e with e | e | e
      · omega
      · omega
      · have := (l1 px e).1; omega)).trans H.plan
  · obtain ⟨HH, e1, e2, e3⟩ := H.r2.ex
    refine ⟨HH, own_sav e1 hs (fun b e ex => ?_), e2, fun k hk' => ?_⟩
    · have := l2 b e
      rcases ex with ex | ex | ex
      · omega
      · omega
      · exact H.ne b ex e
    · obtain ⟨f1, B, c', f2, f3⟩ := e3 k hk'
      exact ⟨f1, B, c', f2, (f3.keep (hs.kept (fun b hb => hX b hb.1))).mono (fun b hb hq => ⟨⟨.inl hq.1, hb, hNg b hq.1⟩, hq.2⟩)⟩
  · refine ⟨?_, ?_, hb.2.1, fun e => ?_, fun e => ?_⟩
    · rcases hb.1 with h1 | h1
      · exact (H.nb b h1).1
      · omega
    · rcases hb.1 with h1 | h1
      · exact (H.nb b h1).2.1
      · omega
    · have e' : some g = some b := e
      injection e' with e'
      exact hb.2.2 e'.symm
    · rcases hb.1 with h1 | h1
      · exact (H.nb b h1).2.2.2.2 e
      · have := (l2 b e).2; omega
  · have e' : some g = some b := e1
    injection e' with e'
    subst e'
    exact hv2g e2
/-- The same, with the lists in the other order. -/
theorem GSt.moreB (H : GSt w0 w D px gx R p n' h' h v1 v2 B3 c3 M N S T) {g c : Nat} {L : List Int} (hs : Sav (fun b => b = D ∨ b = gx ∨ v2.ownBlock = some b) w w') (hd : DiceAt w' D R')
    (hg : v2.ownBlock = some g ∨ w.heap.size ≤ g) (hc : GiftCell w' gx h v1 (slV (some ⟨g, 0, none⟩) (T.length + 1) c) h (slV B3 M.length c3))
    (hr : RowsV (fun b => N b ∨ w.heap.size ≤ b) w' (gx + 1) (slV (some ⟨g, 0, none⟩) (T.length + 1) c) (T ++ [(h, L)])) :
    GSt w0 w' D px gx R' p n' h' h v1 (slV (some ⟨g, 0, none⟩) (T.length + 1) c) B3 c3 M (fun b => (N b ∨ w.heap.size ≤ b) ∧ b < w'.heap.size ∧ b ≠ g) S (T ++ [(h, L)]) := by
  have hsz := hs.size
  have d1 := H.dw
  have d2 := H.wp
  have d3 := H.pg
  have d4 := H.sz
  have l1 := H.r1.lt
  have l2 := H.r2.lt
  have hX : ∀ b, N b → ¬ (b = D ∨ b = gx ∨ v2.ownBlock = some b) := fun b hb e => by
    have := H.nb b hb
    rcases e with e | e | e
    · omega
    · exact this.2.1 e
    · exact this.2.2.2.2 e
  have hNg : ∀ b, N b → b ≠ g := fun b hb e => by
    subst e
    rcases hg with e | e
    · exact (H.nb b hb).2.2.2.2 e
    · have := (H.nb b hb).2.2.1; omega
  have hv2g : v1.ownBlock ≠ some g := fun e => by
    rcases hg with e1 | e1
    · exact H.ne g e e1
    · have := (l1 g e).2; omega
  have hk : Kept N w w' := hs.kept (fun b hb => hX b hb)
  refine ⟨H.dw, H.wp, H.pg, by omega, H.hs.trans2 hs (fun b e => ?_), hd, ?_, hc, ?_, hr.monoQ (fun b hb hq e => ⟨hq, hb, fun e2 => e (by rw [e2]; rfl)⟩), (H.ky.keep hk).mono (fun b hb hq => ⟨.inl hq, hb, hNg b hq⟩), fun b hb => ?_, fun b e1 e2 => ?_⟩
  · rcases e with e | e | e
    · exact .inl e
    · exact .inr (by omega)
    · exact .inr (by have := (l2 b e).1; omega)
  · exact (hs.block px (by omega) (fun e => by
      rcases e with e | e | e
      · omega
      · omega
      · have := (l2 px e).1; omega)).trans H.plan
  · obtain ⟨HH, e1, e2, e3⟩ := H.r1.ex
    refine ⟨HH, own_sav e1 hs (fun b e ex => ?_), e2, fun k hk' => ?_⟩
    · have := l1 b e
      rcases ex with ex | ex | ex
      · omega
      · omega
      · exact H.ne b e ex
    · obtain ⟨f1, B, c', f2, f3⟩ := e3 k hk'
      exact ⟨f1, B, c', f2, (f3.keep (hs.kept (fun b hb => hX b hb.1))).mono (fun b hb hq => ⟨⟨.inl hq.1, hb, hNg b hq.1⟩, hq.2⟩)⟩
  · refine ⟨?_, ?_, hb.2.1, fun e => ?_, fun e => ?_⟩
    · rcases hb.1 with h1 | h1
      · exact (H.nb b h1).1
      · omega
    · rcases hb.1 with h1 | h1
      · exact (H.nb b h1).2.1
      · omega
    · rcases hb.1 with h1 | h1
      · exact (H.nb b h1).2.2.2.1 e
      · have := (l1 b e).2; omega
    · have e' : some g = some b := e
      injection e' with e'
      exact hb.2.2 e'.symm
  · have e' : some g = some b := e2
    injection e' with e'
    subst e'
    exact hv2g e1
end
end Go.Proofs.YtjckpammcgeloaaDoor
namespace Go.Proofs.YtjckpammcgeloaaDoor
open Go.RowKit

theorem add_one (k : Nat) (hk : k ≤ 1000000) (w : World) : (do Go.eqGuard .add 3 (.const (.int .i64 1)) (.tmp 32) (.int .i64 1) (.int .i64 (k : Int)); Go.binOp .add 3 (.int .i64 1) (.int .i64 (k : Int)) : Sem Value).run Tryd.prog w = .ok (.int .i64 ((k + 1 : Nat) : Int)) w := by
  have e : ((k + 1 : Nat) : Int) = 1 + (k : Int) := by omega
  rw [e]
  have h1 : IntKind.wrap .i64 (1 + (k : Int)) = 1 + (k : Int) := by unfold IntKind.wrap; simp [IntKind.bits, IntKind.signed]; omega
  go_simp
theorem els_one {p : Nat} {x : Int} (hx : 0 ≤ x ∧ x < (p : Int)) : ElsOK p [x] := fun y hy => by
  rw [List.mem_singleton] at hy; rw [hy]; exact hx
theorem bd_share (w : World) (h : Int) (A : Option Addr) (n c : Nat) : (Instr.build 35 #[(0, .int .i64 h), (1, slV A n c)]).run Tryd.prog w = .ok (shV h (slV A n c)) w := by go_simp
theorem bs_int (w : World) (x : Int) : (Instr.buildSlice 22 1 #[(0, .int .i64 x)]).run Tryd.prog w = .ok (.slice (some ⟨w.heap.size, 0, none⟩) 1 1) (w.alloc (.cells #[.int .i64 x] 3)) := by go_simp
theorem enter_fill (args : Array Value) (w : World) : (callFunc 27 args).run Tryd.prog w = .ok (.enter 27 args) w :=
  Go.MuLone.run_callFunc_enter Tryd.func27 (by kernel_rfl) rfl args w
theorem own_P {w : World} {base b0 : Nat} {A : Option Addr} {L : List Int} {c : Nat} (h : w.ownsRow base 3 1 (.slice A L.length c) L.length (valsI L)) (hb : b0 ≤ base) : IntsP (fun b => b0 ≤ b) w A c L := by
  obtain ⟨A', c', e, h1, h2, h3⟩ := own_ints h rfl
  injection e with e1 e2 e3
  subst e1 e3
  exact ⟨h1, h2, fun b off e => .inr (by have := (h3 b off e).1; omega)⟩
/-- The call makes a gift. -/
def GiftP (D : Nat) (p : Nat) (h : Int) (n : Nat) (w : World) (e : Ending) (w' : World) : Prop :=
  ∃ v G R', e = .returned v ∧ GiftR (fun b => w.heap.size ≤ b) w' v G ∧ GiftM p h n G ∧ DiceAt w' D R' ∧ w.grownBy w' (some D)
theorem gift_end {w wr : World} {D px gx : Nat} {R : List Int} {p k n : Nat} {n' h' h x0 : Int} {A1 A2 : Option Addr} {a1 a2 kb : Nat} {N : Nat → Prop} {S T : List Shr} (H : GSt w wr D px gx R p n' h' h (slV A1 S.length a1) (slV A2 T.length a2) (some ⟨kb, 0, none⟩) 1 [x0] N S T)
    (lS : S.length = k) (lT : T.length = k) (mS : RowM p h (fun j => j + 1) S) (mT : RowM p h (fun _ => 1) T) (hx : 0 ≤ x0 ∧ x0 < (p : Int)) (s1 : ShP (fun b => gx + 1 ≤ b ∨ N b) wr A1 a1 S) (s2 : ShP (fun b => gx + 1 ≤ b ∨ N b) wr A2 a2 T)
    (h8 : GiftCell wr (px + 1) 0 (.slice none 0 0) (.slice none 0 0) 0 (.slice none 0 0)) (hpx : w.heap.size = px) (hkn : k = n) :
    GiftP D p h n w (.returned (giftV h (slV A1 S.length a1) (slV A2 T.length a2) h (slV (some ⟨kb, 0, none⟩) 1 1))) (((((wr.setCell ⟨px + 1, 0, none⟩ (.int .i64 h)).setCell ⟨px + 1, 1, none⟩ (slV A1 S.length a1)).setCell ⟨px + 1, 2, none⟩ (slV A2 T.length a2)).setCell ⟨px + 1, 3, none⟩ (.int .i64 h)).setCell ⟨px + 1, 4, none⟩ (slV (some ⟨kb, 0, none⟩) 1 1)) ∧
    GiftCell (((((wr.setCell ⟨px + 1, 0, none⟩ (.int .i64 h)).setCell ⟨px + 1, 1, none⟩ (slV A1 S.length a1)).setCell ⟨px + 1, 2, none⟩ (slV A2 T.length a2)).setCell ⟨px + 1, 3, none⟩ (.int .i64 h)).setCell ⟨px + 1, 4, none⟩ (slV (some ⟨kb, 0, none⟩) 1 1)) (px + 1) h (slV A1 S.length a1) (slV A2 T.length a2) h (slV (some ⟨kb, 0, none⟩) 1 1) := by
  have hs := sav_fill wr (px + 1) h h (slV A1 S.length a1) (slV A2 T.length a2) (slV (some ⟨kb, 0, none⟩) 1 1)
  have hw := H.hs.trans2 hs (fun b e => .inr (by omega))
  have d1 := H.dw
  have d3 := H.pg
  have hD := H.dice.lt
  have hN : ∀ b, N b → ¬ (b = px + 1) := fun b hb e => by have := (H.nb b hb).1; omega
  have hk : ∀ b, (gx + 1 ≤ b ∨ N b) → ¬ (b = px + 1) := fun b hb e => by
    rcases hb with hb | hb
    · omega
    · exact hN b hb e
  have lo : ∀ b, (gx + 1 ≤ b ∨ N b) → w.heap.size ≤ b := fun b hb => by
    rcases hb with hb | hb
    · omega
    · have := (H.nb b hb).1; omega
  subst hkn
  refine ⟨⟨_, ⟨h, S, T, h, [x0]⟩, R, rfl, ⟨A1, a1, A2, a2, _, 1, rfl, (s1.keep (hs.kept hk)).mono (fun b _ hb => lo b hb), (s2.keep (hs.kept hk)).mono (fun b _ hb => lo b hb), (H.ky.keep (hs.kept hN)).mono (fun b _ hb => lo b (.inr hb))⟩,
    ⟨rfl, lS, lT, fun j hj => mS.hold j (by rw [lS]; exact hj), fun j hj => mT.hold j (by rw [lT]; exact hj), fun j hj => mS.val j (by rw [lS]; exact hj), fun j hj => mT.val j (by rw [lT]; exact hj), rfl, rfl, els_one hx⟩,
    H.dice.keep (fun j hj => hs.block j (by omega) (fun e => by omega)), ⟨hw.os, hw.tape, hw.output, hw.size, fun j hj e => hw.block j hj (fun e2 => e (by rw [e2]))⟩⟩, h8.fill _ _ _ _ _⟩
set_option maxRecDepth 100000 in
set_option maxHeartbeats 16000000 in
theorem gift_any (D : Nat) (R0 : List Int) (p : Nat) (n' h' h : Int) (n : Nat) (w : World) (hD0 : DiceAt w D R0) (hp : 2 ≤ p) (hp2 : p ≤ 1073741824) (hn : n ≤ 100) :
    Calls Tryd.prog 13 #[.pointer (some ⟨D, 0, none⟩), planV p n' h', .int .i64 h, .int .i64 n] w (GiftP D p h n w) := by
  have HD := Lib.hid hD0
  clear hD0
  go_enter Tryd.func13, Tryd.ntmps13
  go_wp2_with fail
  refine gen_calls fun w1 hw1 => ?_
  have hb1 : Below w.heap.size w w1 := by rw [hw1]; exact bl_alloc _ (below_alloc _ _)
  have hz1 : w1.heap.size = w.heap.size + 2 := by rw [hw1]; simp
  have hpl : PlanCell w1 w.heap.size p n' h' := by rw [hw1]; exact (alloc_old (by simp)).trans (alloc_at rfl)
  have h8 : GiftCell w1 (w.heap.size + 1) 0 (.slice none 0 0) (.slice none 0 0) 0 (.slice none 0 0) := by rw [hw1]; exact GiftCell.new _ _ _ _ _ (by simp)
  clear hw1
  refine (next_any D R0 p w1 (HD.out.below hb1) (by omega)).mono ?_
  rintro e w2 ⟨rfl, hD2, hg2⟩
  have hx := nextV_range R0 p (by omega)
  generalize nextV R0 p = x0 at *
  go_upto_region 2 with fail
  refine gen_world fun w3 hw3 => ?_
  have hs2 := hg2.size
  have hDl := HD.out.lt
  have hb3 : Below w2.heap.size w2 w3 := by rw [hw3]; exact bl_alloc _ (below_alloc _ _)
  have hz3 : w3.heap.size = w2.heap.size + 2 := by rw [hw3]; simp
  have hky : w3.heap[w2.heap.size]? = some (.cells ([x0].map (Value.int .i64)).toArray 3 (0, 0)) := by rw [hw3]; exact (alloc_old (by simp)).trans (alloc_at rfl)
  have hgc : GiftCell w3 (w2.heap.size + 1) h (.slice none 0 0) (.slice none 0 0) h (slV (some ⟨w2.heap.size, 0, none⟩) [x0].length 1) := by rw [hw3]; exact GiftCell.new _ _ _ _ _ (by simp)
  have hsv : Sav (fun b => b = D) w w3 := ((Sav.of_below hb1).trans (grown_save hg2 (fun x e => by injection e with e; exact e.symm))).trans (Sav.of_below hb3)
  have hp3 : PlanCell w3 w.heap.size p n' h' := (hb3.block _ (by omega)).trans ((hg2.block _ (by omega) (fun e => by injection e with e; omega)).trans hpl)
  have hG : GSt w w3 D w.heap.size (w2.heap.size + 1) R0.tail p n' h' h (.slice none 0 0) (.slice none 0 0) (some ⟨w2.heap.size, 0, none⟩) 1 [x0] (fun b => b = w2.heap.size) [] [] :=
    ⟨hDl, Nat.le_refl _, by omega, by omega, hsv, hD2.below hb3, hp3, hgc, RowsV.nil _ _ _, RowsV.nil _ _ _, litI hky rfl (by simp), fun b hb => ⟨by omega, by omega, by omega, (fun e => by cases e), (fun e => by cases e)⟩, fun b e => by cases e⟩
  have H8 := Lib.hid (show GiftCell w3 (w.heap.size + 1) 0 (.slice none 0 0) (.slice none 0 0) 0 (.slice none 0 0) from (hb3.block _ (by omega)).trans ((hg2.block _ (by omega) (fun e => by injection e with e; omega)).trans h8))
  have HG0 := Lib.hid hG
  have HX := Lib.hid hx
  clear hw3 hb3 hky hgc hsv hp3 hG hg2 hD2 hpl hb1 HD h8
  generalize hgx : w2.heap.size + 1 = gx at *
  have HGX := Lib.hid (show w.heap.size + 1 < gx by omega)
  generalize w2.heap.size = kb at *
  generalize hpx : w.heap.size = px at *
  go_wp2_with fail
  go_loopw [10] (fun i wr => ∃ (k : Nat) (v1 v2 : Value) (N : Nat → Prop) (S T : List Shr) (R : List Int), k ≤ n ∧ i = .int .i64 k ∧ GSt w wr D px gx R p n' h' h v1 v2 (some ⟨kb, 0, none⟩) 1 [x0] N S T ∧ GiftCell wr (px + 1) 0 (.slice none 0 0) (.slice none 0 0) 0 (.slice none 0 0) ∧ S.length = k ∧ T.length = k ∧ RowM p h (fun j => j + 1) S ∧ RowM p h (fun _ => 1) T) (fun i _ => n - (intOf i).toNat)
  case atStart => exact ⟨0, _, _, _, _, _, _, Nat.zero_le _, rfl, HG0.out, H8.out, rfl, rfl, RowM.nil _ _ _, RowM.nil _ _ _⟩
  case round =>
    obtain ⟨k, v1, v2, N, S, T, R, hk, rfl, hG, hC8, lS, lT, mS, mT⟩ := hrel
    have HG := Lib.hid hG
    have HC8 := Lib.hid hC8
    have LS := Lib.hid lS
    have LT := Lib.hid lT
    have MS := Lib.hid mS
    have MT := Lib.hid mT
    have sl : S.length ≤ 100000 := by omega
    have tl : T.length ≤ 100000 := by omega
    have hgsz := hG.sz
    have hpg := hG.pg
    have hDp : D < px := by have := hG.dw; have := hG.wp; omega
    have lv1 := hG.r1.lt
    have lv2 := hG.r2.lt
    clear hG hC8 lS lT mS mT
    by_cases hkn : k < n
    · have i0 : (k : Int) < (n : Int) := by omega
      go_wp2_with fail
      have HPL := Lib.hid HG.out.plan
      have HCA := gcell_b gx h v2 (slV (some ⟨kb, 0, none⟩) [x0].length 1)
      have HBA := HG.out.baseA
      have hpX : ¬ (px = D ∨ px = gx ∨ v1.ownBlock = some px) := fun e => by
        rcases e with e | e | e
        · omega
        · omega
        · have := (lv1 px e).1; omega
      refine wp_region_J2 (GiA wr gx 1 D px (gx + 1) R p k h v1 (fun w v => GiftCell w gx h v v2 h (slV (some ⟨kb, 0, none⟩) [x0].length 1)) N S) (by kernel_rfl) (by kernel_rfl) (by kernel_rfl) ?_ ?_ ?_
      case refine_1 => exact fun V => GiA.start HBA V HCA
      case refine_2 =>
        refine JSteps.cons (fun V Ld a W hLi hpre hR hI K hK => ?_) ?_
        · have e := (hR.old 9 (by kernel_rfl)).trans (show _ = Value.pointer (some ⟨gx, 0, none⟩) from rfl)
          exact J_fieldAddr rfl _ (.tmp 9) 1 rfl (by rw [e]; exact fa_g1 W gx) (hK _ _ { hI with x0 := fun _ => rfl })
        refine JSteps.cons (fun V Ld a W hLi hpre hR hI K hK => ?_) ?_
        · have p0 : Ld 0 = true := hpre 0 (List.mem_of_elem_eq_true (by kernel_rfl))
          have f := (hR.ev 0 rfl rfl p0).trans (hI.x0 p0)
          have hS : Ld 14 = false := by
            cases q : Ld 14 with
            | false => rfl
            | true => exact nfC hLi (hI.b1 (hI.c1 q).1).1.2
          exact J_load rfl _ (.tmp 25) rfl (by rw [f]; exact HCA.load W _ (hI.c0 hS)) (hK _ _ { hI with x1 := fun _ => rfl, b1 := fun e => nfC hLi (hI.b1 e).1.2 })
        refine JSteps.cons (fun V Ld a W hLi hpre hR hI K hK => ?_) ?_
        · have e := (hR.old 2 (by kernel_rfl)).trans (show _ = Value.int .i64 h from rfl)
          exact J_move rfl (.tmp 2) rfl (hK _ _ { hI with xh := fun _ => e })
        refine JSteps.cons (fun V Ld a W hLi hpre hR hI K hK => ?_) ?_
        · have e := (hR.old 5 (by kernel_rfl)).trans (show _ = Value.pointer (some ⟨px, 0, none⟩) from rfl)
          exact J_fieldAddr rfl _ (.tmp 5) 0 rfl (by rw [e]; exact fa_p0 W px) (hK _ _ { hI with xp := fun _ => rfl })
        refine JSteps.cons (fun V Ld a W hLi hpre hR hI K hK => ?_) ?_
        · have p3 : Ld 3 = true := hpre 3 (List.mem_of_elem_eq_true (by kernel_rfl))
          have f := (hR.ev 3 rfl rfl p3).trans (hI.xp p3)
          exact J_load rfl _ (.tmp 28) rfl (by rw [f]; exact ld_p0 ((hI.sv.block px (blk_lt HPL.out) hpX).trans HPL.out)) (hK _ _ { hI with xq := fun _ => rfl })
        refine JSteps.cons (fun V Ld a W hLi hpre hR hI K hK => ?_) ?_
        · have e := (hR.old 0 (by kernel_rfl)).trans (show _ = Value.pointer (some ⟨D, 0, none⟩) from rfl)
          exact J_move rfl (.tmp 0) rfl (hK _ _ { hI with xd := fun _ => e })
        refine JSteps.cons (fun V Ld a W hLi hpre hR hI K hK => ?_) ?_
        · have p5 : Ld 5 = true := hpre 5 (List.mem_of_elem_eq_true (by kernel_rfl))
          have f := (hR.ev 5 rfl rfl p5).trans (hI.xd p5)
          refine J_call rfl _ _ _ rfl enter_next (by simp only [List.map_toArray, List.map_cons, List.map_nil, f]; rfl) (next_any D _ 100 W (hI.d0 hLi) (by omega)) ?_
          rintro e w' ⟨rfl, hd, hg⟩
          exact ⟨_, rfl, hK _ _ (hI.oNext HCA HBA hLi hd hg)⟩
        refine JSteps.cons (fun V Ld a W hLi hpre hR hI K hK => ?_) ?_
        · have e := (hR.old 10 (by kernel_rfl)).trans (show _ = Value.int .i64 (k : Int) from rfl)
          exact J_move rfl (.tmp 10) rfl (hK _ _ { hI with xk := fun _ => e })
        refine JSteps.cons (fun V Ld a W hLi hpre hR hI K hK => ?_) ?_
        · have p7 : Ld 7 = true := hpre 7 (List.mem_of_elem_eq_true (by kernel_rfl))
          have f := (hR.ev 7 rfl rfl p7).trans (hI.xk p7)
          exact J_binOp rfl .add _ (.const (.int .i64 1)) (.tmp 32) _ rfl (by rw [f]; exact add_one k (by omega) W) (hK _ _ { hI with xa := fun _ => rfl })
        refine JSteps.cons (fun V Ld a W hLi hpre hR hI K hK => ?_) ?_
        · have p4 : Ld 4 = true := hpre 4 (List.mem_of_elem_eq_true (by kernel_rfl))
          have p6 : Ld 6 = true := hpre 6 (List.mem_of_elem_eq_true (by kernel_rfl))
          have p8 : Ld 8 = true := hpre 8 (List.mem_of_elem_eq_true (by kernel_rfl))
          have f := (hR.ev 4 rfl rfl p4).trans (hI.xq p4)
          obtain ⟨x, ex⟩ := hI.xn p6
          have f2 := (hR.ev 6 rfl rfl p6).trans ex
          have f3 := (hR.ev 8 rfl rfl p8).trans (hI.xa p8)
          refine J_call rfl _ _ _ rfl enter_fill (by simp only [List.map_toArray, List.map_cons, List.map_nil, f, f2, f3]) (fill_any p (k + 1) x W hp hp2 (by omega)) ?_
          rintro e w' ⟨A, c, L, rfl, hl, hE, hown, hb⟩
          exact ⟨_, rfl, hK _ _ { hI.move HCA hb with xu := fun _ => ⟨p6, A, c, L, rfl, hl, hE, own_P hown hI.sv.size⟩ }⟩
        refine JSteps.cons (fun V Ld a W hLi hpre hR hI K hK => ?_) ?_
        · have p2 : Ld 2 = true := hpre 2 (List.mem_of_elem_eq_true (by kernel_rfl))
          have p9 : Ld 9 = true := hpre 9 (List.mem_of_elem_eq_true (by kernel_rfl))
          have f := (hR.ev 2 rfl rfl p2).trans (hI.xh p2)
          obtain ⟨hn, A, c, L, ev, q1, q2, q3⟩ := hI.xu p9
          have f2 := (hR.ev 9 rfl rfl p9).trans ev
          exact J_build rfl _ _ rfl (by simp only [List.map_toArray, List.map_cons, List.map_nil, f, f2]; exact bd_share W h A L.length c) (hK _ _ { hI with xb := fun _ => ⟨hn, A, c, L, rfl, q1, q2, q3⟩ })
        refine JSteps.cons (fun V Ld a W hLi hpre hR hI K hK => ?_) ?_
        · have p10 : Ld 10 = true := hpre 10 (List.mem_of_elem_eq_true (by kernel_rfl))
          obtain ⟨hn, A, c, L, ev, q1, q2, q3⟩ := hI.xb p10
          have f := (hR.ev 10 rfl rfl p10).trans ev
          exact J_buildSlice rfl _ 1 _ rfl (by simp only [List.map_toArray, List.map_cons, List.map_nil, f]; exact bs_share W h A L.length c) (hK _ _ { hI.move HCA (below_alloc W _) with xl := fun _ => ⟨hn, _, A, c, L, rfl, hI.sv.size, heap_alloc_new _ _, q1, q2, q3.keep (Kept.below (below_alloc _ _))⟩ })
        refine JSteps.cons (fun V Ld a W hLi hpre hR hI K hK => ?_) ?_
        · have p1 : Ld 1 = true := hpre 1 (List.mem_of_elem_eq_true (by kernel_rfl))
          have p11 : Ld 11 = true := hpre 11 (List.mem_of_elem_eq_true (by kernel_rfl))
          have f := (hR.ev 1 rfl rfl p1).trans (hI.x1 p1)
          obtain ⟨hn, g, A, c, L, ev, q0, q1, q2, q3, q4⟩ := hI.xl p11
          have f2 := (hR.ev 11 rfl rfl p11).trans ev
          obtain ⟨HH, e1, e2, e3⟩ := (hI.b0 hLi).ex
          refine J_app_sh W rfl (.tmp 26) (.tmp 36) rfl (gx + 1) v1 HH h A L.length c g f f2 q1 e1 (by omega) (by have := hI.sv.size; omega) ?_
          intro g' cap w' ho hg hat
          rw [e2] at ho ⊢
          exact hK _ _ (hI.oApp HCA HBA hLi hn p1 q2 q3 q4 e2 e3 ho hg hat)
        refine JSteps.cons (fun V Ld a W hLi hpre hR hI K hK => ?_) ?_
        · have e := (hR.old 9 (by kernel_rfl)).trans (show _ = Value.pointer (some ⟨gx, 0, none⟩) from rfl)
          exact J_fieldAddr rfl _ (.tmp 9) 1 rfl (by rw [e]; exact fa_g1 W gx) (hK _ _ { hI with x2 := fun _ => rfl })
        refine JSteps.cons (fun V Ld a W hLi hpre hR hI K hK => ?_) trivial
        · have p12 : Ld 12 = true := hpre 12 (List.mem_of_elem_eq_true (by kernel_rfl))
          have p13 : Ld 13 = true := hpre 13 (List.mem_of_elem_eq_true (by kernel_rfl))
          obtain ⟨w', hs, hI'⟩ := hI.oStore HCA HBA hLi p12
          exact J_store rfl _ (.tmp 38) (.tmp 37) rfl (by rw [hR.ev 13 rfl rfl p13, hI.x2 p13, hR.ev 12 rfl rfl p12]; exact hs) (hK _ _ hI')
      case refine_3 =>
        intro V Ld w4 hLd hI
        obtain ⟨hp12, hc⟩ := hI.c1 (hLd 14 (by decide))
        obtain ⟨-, g, c, L, e12, hg, hl, hE, hr⟩ := hI.b1 hp12
        rw [e12] at hc hr
        have HG2 := Lib.hid (HG.out.moreA hI.sv (hI.d1 (hLd 6 (by decide))) hg hc hr)
        have HC82 := Lib.hid (HC8.out.sav hI.sv (fun e => by
          have := HGX.out
          rcases e with e | e | e
          · omega
          · omega
          · have := (lv1 _ e).1; omega))
        have MS2 := Lib.hid (MS.out.more (L := L) (by rw [hl, LS.out]) hE)
        have LS2 := Lib.hid (show (S ++ [(h, L)]).length = k + 1 by rw [List.length_append, LS.out]; rfl)
        have hsz4 := hI.sv.size
        have lv2' := HG2.out.r2.lt
        have lv1' := HG2.out.r1.lt
        have hgsz2 := HG2.out.sz
        clear hI hLd hp12 hc hg hl hE hr HPL hpX HBA HCA e12 HG HC8 MS LS lv1 lv2
        simp only [finL, putL, Act.put, Nat.reduceAdd]
        generalize V 0 = q0
        generalize V 1 = q1
        generalize V 2 = q2
        generalize V 3 = q3
        generalize V 4 = q4
        generalize V 5 = q5
        generalize V 6 = q6
        generalize V 7 = q7
        generalize V 8 = q8
        generalize V 9 = q9
        generalize V 10 = q10
        generalize V 11 = q11
        generalize V 12 = q12
        generalize V 13 = q13
        clear V
        simp only [List.setIfInBounds_toArray, List.set_cons_succ, List.set_cons_zero]
        go_wp2_with fail
        have HPL := Lib.hid HG2.out.plan
        have HCB := gcell_w gx h (slV (some ⟨g, 0, none⟩) (S.length + 1) c) (slV (some ⟨kb, 0, none⟩) [x0].length 1)
        have HBB := HG2.out.baseB
        have hpX : ¬ (px = D ∨ px = gx ∨ v2.ownBlock = some px) := fun e => by
          rcases e with e | e | e
          · omega
          · omega
          · have := (lv2' px e).1; omega
        refine wp_region_J2 (GiB w4 gx 2 D px (gx + 1) R.tail p k h v2 (fun w v => GiftCell w gx h (slV (some ⟨g, 0, none⟩) (S.length + 1) c) v h (slV (some ⟨kb, 0, none⟩) [x0].length 1)) (fun b => (N b ∨ wr.heap.size ≤ b) ∧ b < w4.heap.size ∧ b ≠ g) T) (by kernel_rfl) (by kernel_rfl) (by kernel_rfl) ?_ ?_ ?_
        case refine_1 => exact fun V => GiB.start HBB V HCB
        case refine_2 =>
          refine JSteps.cons (fun V Ld a W hLi hpre hR hI K hK => ?_) ?_
          · have e := (hR.old 9 (by kernel_rfl)).trans (show _ = Value.pointer (some ⟨gx, 0, none⟩) from rfl)
            exact J_fieldAddr rfl _ (.tmp 9) 2 rfl (by rw [e]; exact fa_g2 W gx) (hK _ _ { hI with x0 := fun _ => rfl })
          refine JSteps.cons (fun V Ld a W hLi hpre hR hI K hK => ?_) ?_
          · have p0 : Ld 0 = true := hpre 0 (List.mem_of_elem_eq_true (by kernel_rfl))
            have f := (hR.ev 0 rfl rfl p0).trans (hI.x0 p0)
            have hS : Ld 12 = false := by
              cases q : Ld 12 with
              | false => rfl
              | true => exact nfC hLi (hI.b1 (hI.c1 q).1).1.2
            exact J_load rfl _ (.tmp 39) rfl (by rw [f]; exact HCB.load W _ (hI.c0 hS)) (hK _ _ { hI with x1 := fun _ => rfl, b1 := fun e => nfC hLi (hI.b1 e).1.2 })
          refine JSteps.cons (fun V Ld a W hLi hpre hR hI K hK => ?_) ?_
          · have e := (hR.old 2 (by kernel_rfl)).trans (show _ = Value.int .i64 h from rfl)
            exact J_move rfl (.tmp 2) rfl (hK _ _ { hI with xh := fun _ => e })
          refine JSteps.cons (fun V Ld a W hLi hpre hR hI K hK => ?_) ?_
          · have e := (hR.old 0 (by kernel_rfl)).trans (show _ = Value.pointer (some ⟨D, 0, none⟩) from rfl)
            exact J_move rfl (.tmp 0) rfl (hK _ _ { hI with xd := fun _ => e })
          refine JSteps.cons (fun V Ld a W hLi hpre hR hI K hK => ?_) ?_
          · have e := (hR.old 5 (by kernel_rfl)).trans (show _ = Value.pointer (some ⟨px, 0, none⟩) from rfl)
            exact J_fieldAddr rfl _ (.tmp 5) 0 rfl (by rw [e]; exact fa_p0 W px) (hK _ _ { hI with xp := fun _ => rfl })
          refine JSteps.cons (fun V Ld a W hLi hpre hR hI K hK => ?_) ?_
          · have p4 : Ld 4 = true := hpre 4 (List.mem_of_elem_eq_true (by kernel_rfl))
            have f := (hR.ev 4 rfl rfl p4).trans (hI.xp p4)
            exact J_load rfl _ (.tmp 43) rfl (by rw [f]; exact ld_p0 ((hI.sv.block px (blk_lt HPL.out) hpX).trans HPL.out)) (hK _ _ { hI with xq := fun _ => rfl })
          refine JSteps.cons (fun V Ld a W hLi hpre hR hI K hK => ?_) ?_
          · have p3 : Ld 3 = true := hpre 3 (List.mem_of_elem_eq_true (by kernel_rfl))
            have p5 : Ld 5 = true := hpre 5 (List.mem_of_elem_eq_true (by kernel_rfl))
            have f := (hR.ev 3 rfl rfl p3).trans (hI.xd p3)
            have f2 := (hR.ev 5 rfl rfl p5).trans (hI.xq p5)
            refine J_call rfl _ _ _ rfl enter_next (by simp only [List.map_toArray, List.map_cons, List.map_nil, f, f2]) (next_any D _ p W (hI.d0 hLi) (by omega)) ?_
            rintro e w' ⟨rfl, hd, hg⟩
            exact ⟨_, rfl, hK _ _ (hI.oNext HCB HBB hLi (nextV_range _ p (by omega)) hd hg)⟩
          refine JSteps.cons (fun V Ld a W hLi hpre hR hI K hK => ?_) ?_
          · have p6 : Ld 6 = true := hpre 6 (List.mem_of_elem_eq_true (by kernel_rfl))
            obtain ⟨x, ex, hx⟩ := hI.xn p6
            have f := (hR.ev 6 rfl rfl p6).trans ex
            exact J_buildSlice rfl _ 1 _ rfl (by simp only [List.map_toArray, List.map_cons, List.map_nil, f]; exact bs_int W x) (hK _ _ { hI.move HCB (below_alloc W _) with xu := fun _ => ⟨p6, some ⟨W.heap.size, 0, none⟩, 1, [x], rfl, rfl, els_one hx, litI (heap_alloc_new _ _) hI.sv.size (show ([x] : List Int).length ≤ 1000 from by simp)⟩ })
          refine JSteps.cons (fun V Ld a W hLi hpre hR hI K hK => ?_) ?_
          · have p2 : Ld 2 = true := hpre 2 (List.mem_of_elem_eq_true (by kernel_rfl))
            have p7 : Ld 7 = true := hpre 7 (List.mem_of_elem_eq_true (by kernel_rfl))
            have f := (hR.ev 2 rfl rfl p2).trans (hI.xh p2)
            obtain ⟨hn, A, c, L, ev, q1, q2, q3⟩ := hI.xu p7
            have f2 := (hR.ev 7 rfl rfl p7).trans ev
            exact J_build rfl _ _ rfl (by simp only [List.map_toArray, List.map_cons, List.map_nil, f, f2]; exact bd_share W h A L.length c) (hK _ _ { hI with xb := fun _ => ⟨hn, A, c, L, rfl, q1, q2, q3⟩ })
          refine JSteps.cons (fun V Ld a W hLi hpre hR hI K hK => ?_) ?_
          · have p8 : Ld 8 = true := hpre 8 (List.mem_of_elem_eq_true (by kernel_rfl))
            obtain ⟨hn, A, c, L, ev, q1, q2, q3⟩ := hI.xb p8
            have f := (hR.ev 8 rfl rfl p8).trans ev
            exact J_buildSlice rfl _ 1 _ rfl (by simp only [List.map_toArray, List.map_cons, List.map_nil, f]; exact bs_share W h A L.length c) (hK _ _ { hI.move HCB (below_alloc W _) with xl := fun _ => ⟨hn, _, A, c, L, rfl, hI.sv.size, heap_alloc_new _ _, q1, q2, q3.keep (Kept.below (below_alloc _ _))⟩ })
          refine JSteps.cons (fun V Ld a W hLi hpre hR hI K hK => ?_) ?_
          · have p1 : Ld 1 = true := hpre 1 (List.mem_of_elem_eq_true (by kernel_rfl))
            have p9 : Ld 9 = true := hpre 9 (List.mem_of_elem_eq_true (by kernel_rfl))
            have f := (hR.ev 1 rfl rfl p1).trans (hI.x1 p1)
            obtain ⟨hn, g, A, c, L, ev, q0, q1, q2, q3, q4⟩ := hI.xl p9
            have f2 := (hR.ev 9 rfl rfl p9).trans ev
            obtain ⟨HH, e1, e2, e3⟩ := (hI.b0 hLi).ex
            refine J_app_sh W rfl (.tmp 40) (.tmp 48) rfl (gx + 1) v2 HH h A L.length c g f f2 q1 e1 (by omega) (by have := hI.sv.size; omega) ?_
            intro g' cap w' ho hg hat
            rw [e2] at ho ⊢
            exact hK _ _ (hI.oApp HCB HBB hLi hn p1 q2 q3 q4 e2 e3 ho hg hat)
          refine JSteps.cons (fun V Ld a W hLi hpre hR hI K hK => ?_) ?_
          · have e := (hR.old 9 (by kernel_rfl)).trans (show _ = Value.pointer (some ⟨gx, 0, none⟩) from rfl)
            exact J_fieldAddr rfl _ (.tmp 9) 2 rfl (by rw [e]; exact fa_g2 W gx) (hK _ _ { hI with x2 := fun _ => rfl })
          refine JSteps.cons (fun V Ld a W hLi hpre hR hI K hK => ?_) trivial
          · have p10 : Ld 10 = true := hpre 10 (List.mem_of_elem_eq_true (by kernel_rfl))
            have p11 : Ld 11 = true := hpre 11 (List.mem_of_elem_eq_true (by kernel_rfl))
            obtain ⟨w', hs, hI'⟩ := hI.oStore HCB HBB hLi p10
            exact J_store rfl _ (.tmp 50) (.tmp 49) rfl (by rw [hR.ev 11 rfl rfl p11, hI.x2 p11, hR.ev 10 rfl rfl p10]; exact hs) (hK _ _ hI')
        case refine_3 =>
          intro V Ld w5 hLd hI
          obtain ⟨hp10, hc⟩ := hI.c1 (hLd 12 (by decide))
          obtain ⟨-, g5, c5, L5, e10, hg, hl, hE, hr⟩ := hI.b1 hp10
          rw [e10] at hc hr
          have HG3 := Lib.hid (HG2.out.moreB hI.sv (hI.d1 (hLd 6 (by decide))) hg hc hr)
          have HC83 := Lib.hid (HC82.out.sav hI.sv (fun e => by
            have := HGX.out
            rcases e with e | e | e
            · omega
            · omega
            · have := (lv2' _ e).1; omega))
          have MT3 := Lib.hid (MT.out.more (L := L5) hl hE)
          have LT3 := Lib.hid (show (T ++ [(h, L5)]).length = k + 1 by rw [List.length_append, LT.out]; rfl)
          clear hI hLd hp10 hc hg hl hE hr HPL hpX HBB HCB e10 HG2 HC82 MT LT lv1' lv2'
          simp only [finL, putL, Act.put, Nat.reduceAdd]
          generalize V 0 = q0
          generalize V 1 = q1
          generalize V 2 = q2
          generalize V 3 = q3
          generalize V 4 = q4
          generalize V 5 = q5
          generalize V 6 = q6
          generalize V 7 = q7
          generalize V 8 = q8
          generalize V 9 = q9
          generalize V 10 = q10
          generalize V 11 = q11
          clear V
          simp only [List.setIfInBounds_toArray, List.set_cons_succ, List.set_cons_zero]
          go_wp2_with fail
          go_roundw
          case rel => exact ⟨k + 1, _, _, _, _, _, _, by omega, by go_num, HG3.out, HC83.out, LS2.out, LT3.out, MS2.out, MT3.out⟩
          case measure => simp [intOf]; omega
    · have hkn' : k = n := by omega
      obtain ⟨A1, a1, e1, s1⟩ := HG.out.r1.read
      obtain ⟨A2, a2, e2, s2⟩ := HG.out.r2.read
      subst e1 e2
      have HE := Lib.hid (gift_end HG.out LS.out LT.out MS.out MT.out HX.out s1 s2 HC8.out hpx hkn')
      have hx0 := HG.out.gc.c0
      have hx1 := HG.out.gc.c1
      have hx2 := HG.out.gc.c2
      have hx3 := HG.out.gc.c3
      have hx4 := HG.out.gc.c4
      have lgx := HG.out.gc.lt
      have y0 := HC8.out.c0
      have y1 := HC8.out.c1
      have y2 := HC8.out.c2
      have y3 := HC8.out.c3
      have y4 := HC8.out.c4
      have z0 := HC8.out.frozen 0
      have z1 := HC8.out.frozen 1
      have z2 := HC8.out.frozen 2
      have z3 := HC8.out.frozen 3
      have z4 := HC8.out.frozen 4
      clear s1 s2 hkn'
      go_wp2_with fail
      exact bodyPost_ret (results_gift rfl _ _ (px + 1) rfl HE.out.2) rfl HE.out.1
end Go.Proofs.YtjckpammcgeloaaDoor
namespace Go.Proofs.YtjckpammcgeloaaDoor
open Go.RowKit

def PickP (D : Nat) (L R : List Int) (w : World) (e : Ending) (w' : World) : Prop := ∃ k : Nat, k < L.length ∧ e = .returned (.int .i64 (nth L k)) ∧ DiceAt w' D R.tail ∧ w.grownBy w' (some D)
set_option maxHeartbeats 1000000 in
theorem pick_any (D : Nat) (R : List Int) (A : Option Addr) (L : List Int) (c : Nat) (w : World) (h : DiceAt w D R) (hI : IntsAt w A L) (hA : ∀ b off, A = some ⟨b, off, none⟩ → b ≠ D) (h0 : 0 < L.length) (hl : L.length ≤ 1000) :
    Calls Tryd.prog 14 #[.pointer (some ⟨D, 0, none⟩), .slice A L.length c] w (PickP D L R w) := by
  have HI := Lib.hid hI
  have HA := Lib.hid hA
  have HD := Lib.hid h
  clear hI hA h
  go_enter Tryd.func14, Tryd.ntmps14
  go_wp2_with fail
  refine (next_any D R L.length _ HD.out (by omega)).mono ?_
  rintro e w1 ⟨rfl, hD1, hg⟩
  obtain ⟨m1, m2⟩ := nextV_range R L.length (by omega)
  generalize nextV R L.length = q at *
  obtain ⟨k, rfl⟩ := Int.eq_ofNat_of_zero_le m1
  have hk : k < L.length := by omega
  obtain ⟨b, off, rfl, hb, hc⟩ := (HI.out.grown hg HA.out) k hk
  have HR := Lib.hid (show PickP D L R w (.returned (.int .i64 (nth L k))) w1 from ⟨k, hk, rfl, hD1, hg⟩)
  clear hD1 hg m1
  go_wp2_with fail
  go_ret
  exact HR.out


/-- The safe primes. -/
def safeL : List Int := [11, 23, 500000003, 29, 53, 83]
theorem prime_29 : PrimeN 29 := primeB_sound (s := 4) (by decide +kernel)
theorem prime_53 : PrimeN 53 := primeB_sound (s := 6) (by decide +kernel)
theorem prime_83 : PrimeN 83 := primeB_sound (s := 8) (by decide +kernel)
theorem safe_prime {k : Nat} (hk : k < 6) : ∃ p : Nat, nth safeL k = (p : Int) ∧ PrimeN p ∧ 11 ≤ p ∧ p ≤ 500000003 := by
  have : k = 0 ∨ k = 1 ∨ k = 2 ∨ k = 3 ∨ k = 4 ∨ k = 5 := by omega
  rcases this with rfl | rfl | rfl | rfl | rfl | rfl
  · exact ⟨11, rfl, prime_11, by omega, by omega⟩
  · exact ⟨23, rfl, prime_23, by omega, by omega⟩
  · exact ⟨500000003, rfl, prime_500000003, by omega, by omega⟩
  · exact ⟨29, rfl, prime_29, by omega, by omega⟩
  · exact ⟨53, rfl, prime_53, by omega, by omega⟩
  · exact ⟨83, rfl, prime_83, by omega, by omega⟩
/-- The call picks a safe prime. -/
def SafeP (D : Nat) (w : World) (e : Ending) (w' : World) : Prop := ∃ (p : Nat) (R : List Int), e = .returned (.int .i64 p) ∧ PrimeN p ∧ 11 ≤ p ∧ p ≤ 500000003 ∧ DiceAt w' D R ∧ w.grownBy w' (some D)
theorem grown_al {w w' : World} {o : Obj} {r : Option Nat} (h : (w.alloc o).grownBy w' r) : w.grownBy w' r :=
  ⟨h.os, h.tape, h.output, by have := h.size; simp at this; omega, fun k hk hr => (h.block k (by simp; omega) hr).trans (alloc_old hk)⟩
set_option maxRecDepth 100000 in
set_option maxHeartbeats 1000000 in
theorem safe_any (D : Nat) (R : List Int) (w : World) (hD : DiceAt w D R) : Calls Tryd.prog 11 #[.pointer (some ⟨D, 0, none⟩)] w (SafeP D w) := by
  have hlt := hD.lt
  have HD := Lib.hid hD
  clear hD
  go_enter Tryd.func11, Tryd.ntmps11
  go_wp2_with fail
  refine (pick_any D R (some ⟨w.heap.size, 0, none⟩) safeL 6 _ (HD.out.below (below_alloc _ _)) (lit_ints w safeL) (fun b off e => by injection e with e; injection e with e; omega) (by decide) (by decide)).mono ?_
  rintro e w1 ⟨k, hk, rfl, hD1, hg⟩
  obtain ⟨p, ep, h1, h2, h3⟩ := safe_prime hk
  rw [ep]
  have HF := Lib.hid (show SafeP D w (.returned (.int .i64 p)) w1 from ⟨p, _, rfl, h1, h2, h3, hD1, grown_al hg⟩)
  clear hD1 hg ep hk
  go_wp2_with fail
  go_ret
  exact HF.out
/-- The call makes a plan over the prime. -/
def PPlanP (D p : Nat) (w : World) (e : Ending) (w' : World) : Prop := ∃ (n h : Nat) (R : List Int), e = .returned (planV p n h) ∧ 1 ≤ n ∧ n ≤ h ∧ h ≤ 5 ∧ DiceAt w' D R ∧ w.grownBy w' (some D)
def holdL : List Int := [4, 3, 5, 2, 1]
def needL : List Int := [2, 2, 1, 3]
theorem hold_at {k : Nat} (hk : k < 5) : ∃ h : Nat, nth holdL k = (h : Int) ∧ 1 ≤ h ∧ h ≤ 5 := by
  have : k = 0 ∨ k = 1 ∨ k = 2 ∨ k = 3 ∨ k = 4 := by omega
  rcases this with rfl | rfl | rfl | rfl | rfl
  · exact ⟨4, rfl, by omega, by omega⟩
  · exact ⟨3, rfl, by omega, by omega⟩
  · exact ⟨5, rfl, by omega, by omega⟩
  · exact ⟨2, rfl, by omega, by omega⟩
  · exact ⟨1, rfl, by omega, by omega⟩
theorem need_at {k : Nat} (hk : k < 4) : ∃ h : Nat, nth needL k = (h : Int) ∧ 1 ≤ h := by
  have : k = 0 ∨ k = 1 ∨ k = 2 ∨ k = 3 := by omega
  rcases this with rfl | rfl | rfl | rfl
  · exact ⟨2, rfl, by omega⟩
  · exact ⟨2, rfl, by omega⟩
  · exact ⟨1, rfl, by omega⟩
  · exact ⟨3, rfl, by omega⟩
theorem pplan_end {w w3 : World} {D p n h : Nat} {R : List Int} (hC : PlanCell w3 w.heap.size 0 0 0) (hD : DiceAt w3 D R) (hS : Sav (fun b => b = D) w w3) (hlt : D < w.heap.size) (h1 : 1 ≤ n) (h2 : n ≤ h) (h3 : h ≤ 5) :
    PPlanP D p w (.returned (planV p n h)) (((w3.setCell ⟨w.heap.size, 0, none⟩ (.int .i64 p)).setCell ⟨w.heap.size, 1, none⟩ (.int .i64 n)).setCell ⟨w.heap.size, 2, none⟩ (.int .i64 h)) ∧
    PlanCell (((w3.setCell ⟨w.heap.size, 0, none⟩ (.int .i64 p)).setCell ⟨w.heap.size, 1, none⟩ (.int .i64 n)).setCell ⟨w.heap.size, 2, none⟩ (.int .i64 h)) w.heap.size p n h := by
  have hs : Sav (fun x => x = w.heap.size) w3 (((w3.setCell ⟨w.heap.size, 0, none⟩ (.int .i64 p)).setCell ⟨w.heap.size, 1, none⟩ (.int .i64 n)).setCell ⟨w.heap.size, 2, none⟩ (.int .i64 h)) := ((Sav.set (X := fun x => x = w.heap.size) _ ⟨w.heap.size, 0, none⟩ _ rfl).trans (Sav.set (X := fun x => x = w.heap.size) _ ⟨w.heap.size, 1, none⟩ _ rfl)).trans (Sav.set (X := fun x => x = w.heap.size) _ ⟨w.heap.size, 2, none⟩ _ rfl)
  have hw := hS.trans2 hs (fun b e => .inr (by omega))
  have hDl := hD.lt
  exact ⟨⟨n, h, R, rfl, h1, h2, h3, hD.keep (fun j hj => hs.block j (by omega) (fun e => by omega)), ⟨hw.os, hw.tape, hw.output, hw.size, fun j hj e => hw.block j hj (fun e2 => e (by rw [e2]))⟩⟩, hC.fill _ _ _⟩
set_option maxRecDepth 100000 in
set_option maxHeartbeats 2000000 in
theorem pplan_any (D p : Nat) (R : List Int) (w : World) (hD : DiceAt w D R) (hp : p ≤ 1073741824) : Calls Tryd.prog 10 #[.pointer (some ⟨D, 0, none⟩), .int .i64 p] w (PPlanP D p w) := by
  have hlt := hD.lt
  have HD := Lib.hid hD
  clear hD
  go_enter Tryd.func10, Tryd.ntmps10
  go_wp2_with fail
  refine gen_calls fun w1 hw1 => ?_
  have hb1 : Below w.heap.size w w1 := by rw [hw1]; exact bl_alloc _ (below_alloc _ _)
  have hz1 : w1.heap.size = w.heap.size + 2 := by rw [hw1]; simp
  have hc : PlanCell w1 w.heap.size 0 0 0 := by rw [hw1]; exact (alloc_old (by simp)).trans (alloc_at rfl)
  have hI : IntsAt w1 (some ⟨w.heap.size + 1, 0, none⟩) holdL := by rw [hw1]; exact IntBlk.ints (alloc_at (by simp))
  clear hw1
  refine (pick_any D R (some ⟨w.heap.size + 1, 0, none⟩) holdL 5 w1 (HD.out.below hb1) hI (fun b off e => by injection e with e; injection e with e; omega) (by decide) (by decide)).mono ?_
  rintro e w2 ⟨k, hk, rfl, hD1, hg⟩
  obtain ⟨h, eh, h1, h2⟩ := hold_at hk
  rw [eh]
  have hc2 : PlanCell w2 w.heap.size 0 0 0 := (hg.block _ (by omega) (fun e => by injection e with e; omega)).trans hc
  have hs2 := hg.size
  have HC := Lib.hid hc2
  have HD2 := Lib.hid hD1
  have HS := Lib.hid ((Sav.of_below (X := fun b => b = D) hb1).trans (grown_save hg (fun x e => by injection e with e; exact e.symm)))
  clear hI hc hg hD1 hc2 hb1 HD eh hk
  go_wp2_with fail
  have hDw : D < w2.heap.size := by omega
  refine (pick_any D R.tail (some ⟨w2.heap.size, 0, none⟩) needL 4 _ (HD2.out.below (below_alloc _ _)) (lit_ints w2 needL) (fun b off e => by injection e with e; injection e with e; omega) (by decide) (by decide)).mono ?_
  rintro e w3 ⟨k, hk, rfl, hD3, hg⟩
  obtain ⟨m, em, m1⟩ := need_at hk
  rw [em]
  have hg' := grown_al hg
  have hs3 := hg'.size
  have HC3 := Lib.hid (show PlanCell w3 w.heap.size 0 0 0 from (hg'.block _ (by omega) (fun e => by injection e with e; omega)).trans HC.out)
  have HD3 := Lib.hid hD3
  have HS3 := Lib.hid (HS.out.trans (grown_save hg' (fun x e => by injection e with e; exact e.symm)))
  clear hg hg' hD3 HC HD2 HS em hk
  have HE := Lib.hid (fun (n : Nat) (h3 : 1 ≤ n) (h4 : n ≤ h) => pplan_end (p := p) HC3.out HD3.out HS3.out hlt h3 h4 h2)
  have x0 := HC3.out.c0
  have x1 := HC3.out.c1
  have x2 := HC3.out.c2
  have f0 := HC3.out.frozen 0
  have f1 := HC3.out.frozen 1
  have f2 := HC3.out.frozen 2
  by_cases hmn : h ≤ m
  · have e1 : min (h : Int) (m : Int) = (h : Int) := by omega
    have e2 : (h : Int) ≤ (m : Int) := by omega
    have e3 : ¬ (m : Int) < (h : Int) := by omega
    go_wp2_with fail
    exact bodyPost_ret (results_plan rfl _ _ w.heap.size rfl (HE.out h h1 (Nat.le_refl _)).2) rfl (HE.out h h1 (Nat.le_refl _)).1
  · have e1 : min (h : Int) (m : Int) = (m : Int) := by omega
    have e2 : ¬ (h : Int) ≤ (m : Int) := by omega
    have e3 : (m : Int) < (h : Int) := by omega
    go_wp2_with fail
    exact bodyPost_ret (results_plan rfl _ _ w.heap.size rfl (HE.out m m1 (by omega)).2) rfl (HE.out m m1 (by omega)).1
end Go.Proofs.YtjckpammcgeloaaDoor
namespace Go.Proofs.YtjckpammcgeloaaDoor
open Go.RowKit

/-- A variable's block, as far as it is made. -/
def TrC (V : Nat → Value) (Ld : Nat → Bool) (b : Nat) : Prop := (Ld 12 = true ∧ V 12 = .pointer (some ⟨b, 0, none⟩)) ∨ (Ld 13 = true ∧ V 13 = .pointer (some ⟨b, 0, none⟩)) ∨ (Ld 14 = true ∧ V 14 = .pointer (some ⟨b, 0, none⟩))
structure Tr (W0 : World) (D p n : Nat) (pn ph h1 h2 h3 : Int) (V : Nat → Value) (Ld : Nat → Bool) (w : World) : Prop where
  sv : Sav (fun b => b = D) W0 w
  dice : ∃ R, DiceAt w D R
  d0 : Ld 0 = true → V 0 = .pointer (some ⟨D, 0, none⟩)
  p0 : Ld 1 = true → V 1 = planV p pn ph
  n0 : Ld 2 = true → V 2 = .int .i64 (n : Int)
  g0 : Ld 3 = true → ∃ G, GiftM p h1 n G ∧ GiftR (fun b => W0.heap.size ≤ b ∧ ¬ TrC V Ld b) w (V 3) G
  a0 : Ld 12 = true → ∃ g, V 12 = .pointer (some ⟨g, 0, none⟩) ∧ W0.heap.size ≤ g ∧ ∃ h b v kh kv, GiftCell w g h b v kh kv
  s0 : Ld 15 = true → Ld 12 = true ∧ Ld 3 = true ∧ ∃ g h b v kh kv, V 12 = .pointer (some ⟨g, 0, none⟩) ∧ V 3 = giftV h b v kh kv ∧ GiftCell w g h b v kh kv
  d1 : Ld 4 = true → V 4 = .pointer (some ⟨D, 0, none⟩)
  p1 : Ld 5 = true → V 5 = planV p pn ph
  n1 : Ld 6 = true → V 6 = .int .i64 (n : Int)
  g1 : Ld 7 = true → ∃ G, GiftM p h2 n G ∧ GiftR (fun b => W0.heap.size ≤ b ∧ ¬ TrC V Ld b) w (V 7) G
  a1 : Ld 13 = true → ∃ g, V 13 = .pointer (some ⟨g, 0, none⟩) ∧ W0.heap.size ≤ g ∧ ∃ h b v kh kv, GiftCell w g h b v kh kv
  s1 : Ld 16 = true → Ld 13 = true ∧ Ld 7 = true ∧ ∃ g h b v kh kv, V 13 = .pointer (some ⟨g, 0, none⟩) ∧ V 7 = giftV h b v kh kv ∧ GiftCell w g h b v kh kv
  d2 : Ld 8 = true → V 8 = .pointer (some ⟨D, 0, none⟩)
  p2 : Ld 9 = true → V 9 = planV p pn ph
  n2 : Ld 10 = true → V 10 = .int .i64 (n : Int)
  g2 : Ld 11 = true → ∃ G, GiftM p h3 n G ∧ GiftR (fun b => W0.heap.size ≤ b ∧ ¬ TrC V Ld b) w (V 11) G
  a2 : Ld 14 = true → ∃ g, V 14 = .pointer (some ⟨g, 0, none⟩) ∧ W0.heap.size ≤ g ∧ ∃ h b v kh kv, GiftCell w g h b v kh kv
  s2 : Ld 17 = true → Ld 14 = true ∧ Ld 11 = true ∧ ∃ g h b v kh kv, V 14 = .pointer (some ⟨g, 0, none⟩) ∧ V 11 = giftV h b v kh kv ∧ GiftCell w g h b v kh kv
  e12_13 : Ld 12 = true → Ld 13 = true → ∀ g, V 12 = .pointer (some ⟨g, 0, none⟩) → V 13 = .pointer (some ⟨g, 0, none⟩) → False
  e12_14 : Ld 12 = true → Ld 14 = true → ∀ g, V 12 = .pointer (some ⟨g, 0, none⟩) → V 14 = .pointer (some ⟨g, 0, none⟩) → False
  e13_14 : Ld 13 = true → Ld 14 = true → ∀ g, V 13 = .pointer (some ⟨g, 0, none⟩) → V 14 = .pointer (some ⟨g, 0, none⟩) → False
section
variable {W0 w w' : World} {D p n : Nat} {pn ph h1 h2 h3 : Int} {V : Nat → Value} {Ld : Nat → Bool}
theorem Tr.start (hD : ∃ R, DiceAt W0 D R) (V : Nat → Value) : Tr W0 D p n pn ph h1 h2 h3 V (fun _ => false) W0.drew where
  sv := (Sav.refl _ _).trans (Sav.of_below (Below.refl _ _).drew)
  dice := by obtain ⟨R, h⟩ := hD; exact ⟨R, h.below (Below.refl _ _).drew⟩
  d0 e := by cases e
  p0 e := by cases e
  n0 e := by cases e
  g0 e := by cases e
  a0 e := by cases e
  s0 e := by cases e
  d1 e := by cases e
  p1 e := by cases e
  n1 e := by cases e
  g1 e := by cases e
  a1 e := by cases e
  s1 e := by cases e
  d2 e := by cases e
  p2 e := by cases e
  n2 e := by cases e
  g2 e := by cases e
  a2 e := by cases e
  s2 e := by cases e
  e12_13 e := by cases e
  e12_14 e := by cases e
  e13_14 e := by cases e
theorem Tr.lt (H : Tr W0 D p n pn ph h1 h2 h3 V Ld w) {b : Nat} (h : TrC V Ld b) : W0.heap.size ≤ b ∧ b < w.heap.size := by
  rcases h with ⟨e, q⟩ | ⟨e, q⟩ | ⟨e, q⟩
  · obtain ⟨g, q1, q2, h, b', v, kh, kv, q3⟩ := H.a0 e
    rw [q1] at q
    have := ptr_inj q
    subst this
    exact ⟨q2, q3.lt⟩
  · obtain ⟨g, q1, q2, h, b', v, kh, kv, q3⟩ := H.a1 e
    rw [q1] at q
    have := ptr_inj q
    subst this
    exact ⟨q2, q3.lt⟩
  · obtain ⟨g, q1, q2, h, b', v, kh, kv, q3⟩ := H.a2 e
    rw [q1] at q
    have := ptr_inj q
    subst this
    exact ⟨q2, q3.lt⟩
theorem Tr.oG0 (H : Tr W0 D p n pn ph h1 h2 h3 V Ld w) (hD : D < W0.heap.size) (hL : Ld 3 = false) {v : Value} {G : GiftD} {R' : List Int} (hR : GiftR (fun b => w.heap.size ≤ b) w' v G) (hM : GiftM p h1 n G) (hd : DiceAt w' D R') (hg : w.grownBy w' (some D)) : Tr W0 D p n pn ph h1 h2 h3 (updV V 3 v) (upd Ld 3) w' := { H with
  sv := H.sv.trans (grown_save hg (fun x e => by injection e with e; exact e.symm))
  dice := ⟨_, hd⟩
  g0 := fun _ => ⟨G, hM, hR.mono (fun b hb hq => ⟨by have := H.sv.size; omega, fun hc => by have := (H.lt hc).2; omega⟩)⟩
  s0 := fun e => nfC hL (H.s0 e).2.1
  a0 := fun e => by obtain ⟨g, q1, q2, h, b, v, kh, kv, q3⟩ := H.a0 e; exact ⟨g, q1, q2, h, b, v, kh, kv, q3.keep (hg.block g q3.lt (fun e => by injection e with e; omega))⟩
  g1 := fun e => by obtain ⟨G', m, r⟩ := H.g1 e; exact ⟨G', m, r.keep ⟨hg.size, fun b hb hlt => hg.block b hlt (fun e => by injection e with e; have := hb.1; omega)⟩⟩
  s1 := fun e => by obtain ⟨q0, q1, g, h, b, v, kh, kv, q2, q3, q4⟩ := H.s1 e; obtain ⟨g', r1, r2, -⟩ := H.a1 q0; have e3 : g' = g := ptr_inj (r1.symm.trans q2); exact ⟨q0, q1, g, h, b, v, kh, kv, q2, q3, q4.keep (hg.block g q4.lt (fun e => by injection e with e; omega))⟩
  a1 := fun e => by obtain ⟨g, q1, q2, h, b, v, kh, kv, q3⟩ := H.a1 e; exact ⟨g, q1, q2, h, b, v, kh, kv, q3.keep (hg.block g q3.lt (fun e => by injection e with e; omega))⟩
  g2 := fun e => by obtain ⟨G', m, r⟩ := H.g2 e; exact ⟨G', m, r.keep ⟨hg.size, fun b hb hlt => hg.block b hlt (fun e => by injection e with e; have := hb.1; omega)⟩⟩
  s2 := fun e => by obtain ⟨q0, q1, g, h, b, v, kh, kv, q2, q3, q4⟩ := H.s2 e; obtain ⟨g', r1, r2, -⟩ := H.a2 q0; have e3 : g' = g := ptr_inj (r1.symm.trans q2); exact ⟨q0, q1, g, h, b, v, kh, kv, q2, q3, q4.keep (hg.block g q4.lt (fun e => by injection e with e; omega))⟩
  a2 := fun e => by obtain ⟨g, q1, q2, h, b, v, kh, kv, q3⟩ := H.a2 e; exact ⟨g, q1, q2, h, b, v, kh, kv, q3.keep (hg.block g q3.lt (fun e => by injection e with e; omega))⟩ }
theorem Tr.oG1 (H : Tr W0 D p n pn ph h1 h2 h3 V Ld w) (hD : D < W0.heap.size) (hL : Ld 7 = false) {v : Value} {G : GiftD} {R' : List Int} (hR : GiftR (fun b => w.heap.size ≤ b) w' v G) (hM : GiftM p h2 n G) (hd : DiceAt w' D R') (hg : w.grownBy w' (some D)) : Tr W0 D p n pn ph h1 h2 h3 (updV V 7 v) (upd Ld 7) w' := { H with
  sv := H.sv.trans (grown_save hg (fun x e => by injection e with e; exact e.symm))
  dice := ⟨_, hd⟩
  g0 := fun e => by obtain ⟨G', m, r⟩ := H.g0 e; exact ⟨G', m, r.keep ⟨hg.size, fun b hb hlt => hg.block b hlt (fun e => by injection e with e; have := hb.1; omega)⟩⟩
  s0 := fun e => by obtain ⟨q0, q1, g, h, b, v, kh, kv, q2, q3, q4⟩ := H.s0 e; obtain ⟨g', r1, r2, -⟩ := H.a0 q0; have e3 : g' = g := ptr_inj (r1.symm.trans q2); exact ⟨q0, q1, g, h, b, v, kh, kv, q2, q3, q4.keep (hg.block g q4.lt (fun e => by injection e with e; omega))⟩
  a0 := fun e => by obtain ⟨g, q1, q2, h, b, v, kh, kv, q3⟩ := H.a0 e; exact ⟨g, q1, q2, h, b, v, kh, kv, q3.keep (hg.block g q3.lt (fun e => by injection e with e; omega))⟩
  g1 := fun _ => ⟨G, hM, hR.mono (fun b hb hq => ⟨by have := H.sv.size; omega, fun hc => by have := (H.lt hc).2; omega⟩)⟩
  s1 := fun e => nfC hL (H.s1 e).2.1
  a1 := fun e => by obtain ⟨g, q1, q2, h, b, v, kh, kv, q3⟩ := H.a1 e; exact ⟨g, q1, q2, h, b, v, kh, kv, q3.keep (hg.block g q3.lt (fun e => by injection e with e; omega))⟩
  g2 := fun e => by obtain ⟨G', m, r⟩ := H.g2 e; exact ⟨G', m, r.keep ⟨hg.size, fun b hb hlt => hg.block b hlt (fun e => by injection e with e; have := hb.1; omega)⟩⟩
  s2 := fun e => by obtain ⟨q0, q1, g, h, b, v, kh, kv, q2, q3, q4⟩ := H.s2 e; obtain ⟨g', r1, r2, -⟩ := H.a2 q0; have e3 : g' = g := ptr_inj (r1.symm.trans q2); exact ⟨q0, q1, g, h, b, v, kh, kv, q2, q3, q4.keep (hg.block g q4.lt (fun e => by injection e with e; omega))⟩
  a2 := fun e => by obtain ⟨g, q1, q2, h, b, v, kh, kv, q3⟩ := H.a2 e; exact ⟨g, q1, q2, h, b, v, kh, kv, q3.keep (hg.block g q3.lt (fun e => by injection e with e; omega))⟩ }
theorem Tr.oG2 (H : Tr W0 D p n pn ph h1 h2 h3 V Ld w) (hD : D < W0.heap.size) (hL : Ld 11 = false) {v : Value} {G : GiftD} {R' : List Int} (hR : GiftR (fun b => w.heap.size ≤ b) w' v G) (hM : GiftM p h3 n G) (hd : DiceAt w' D R') (hg : w.grownBy w' (some D)) : Tr W0 D p n pn ph h1 h2 h3 (updV V 11 v) (upd Ld 11) w' := { H with
  sv := H.sv.trans (grown_save hg (fun x e => by injection e with e; exact e.symm))
  dice := ⟨_, hd⟩
  g0 := fun e => by obtain ⟨G', m, r⟩ := H.g0 e; exact ⟨G', m, r.keep ⟨hg.size, fun b hb hlt => hg.block b hlt (fun e => by injection e with e; have := hb.1; omega)⟩⟩
  s0 := fun e => by obtain ⟨q0, q1, g, h, b, v, kh, kv, q2, q3, q4⟩ := H.s0 e; obtain ⟨g', r1, r2, -⟩ := H.a0 q0; have e3 : g' = g := ptr_inj (r1.symm.trans q2); exact ⟨q0, q1, g, h, b, v, kh, kv, q2, q3, q4.keep (hg.block g q4.lt (fun e => by injection e with e; omega))⟩
  a0 := fun e => by obtain ⟨g, q1, q2, h, b, v, kh, kv, q3⟩ := H.a0 e; exact ⟨g, q1, q2, h, b, v, kh, kv, q3.keep (hg.block g q3.lt (fun e => by injection e with e; omega))⟩
  g1 := fun e => by obtain ⟨G', m, r⟩ := H.g1 e; exact ⟨G', m, r.keep ⟨hg.size, fun b hb hlt => hg.block b hlt (fun e => by injection e with e; have := hb.1; omega)⟩⟩
  s1 := fun e => by obtain ⟨q0, q1, g, h, b, v, kh, kv, q2, q3, q4⟩ := H.s1 e; obtain ⟨g', r1, r2, -⟩ := H.a1 q0; have e3 : g' = g := ptr_inj (r1.symm.trans q2); exact ⟨q0, q1, g, h, b, v, kh, kv, q2, q3, q4.keep (hg.block g q4.lt (fun e => by injection e with e; omega))⟩
  a1 := fun e => by obtain ⟨g, q1, q2, h, b, v, kh, kv, q3⟩ := H.a1 e; exact ⟨g, q1, q2, h, b, v, kh, kv, q3.keep (hg.block g q3.lt (fun e => by injection e with e; omega))⟩
  g2 := fun _ => ⟨G, hM, hR.mono (fun b hb hq => ⟨by have := H.sv.size; omega, fun hc => by have := (H.lt hc).2; omega⟩)⟩
  s2 := fun e => nfC hL (H.s2 e).2.1
  a2 := fun e => by obtain ⟨g, q1, q2, h, b, v, kh, kv, q3⟩ := H.a2 e; exact ⟨g, q1, q2, h, b, v, kh, kv, q3.keep (hg.block g q3.lt (fun e => by injection e with e; omega))⟩ }
theorem TrC.al0 {b : Nat} (hb : b < w.heap.size) (h : TrC (updV V 12 (.pointer (some ⟨w.heap.size, 0, none⟩))) (upd Ld 12) b) : TrC V Ld b := by
  rcases h with ⟨e, q⟩ | ⟨e, q⟩ | ⟨e, q⟩
  · have := ptr_inj (show Value.pointer (some ⟨w.heap.size, 0, none⟩) = .pointer (some ⟨b, 0, none⟩) from q); omega
  · exact .inr (.inl ⟨e, q⟩)
  · exact .inr (.inr ⟨e, q⟩)
theorem Tr.oA0 (H : Tr W0 D p n pn ph h1 h2 h3 V Ld w) (hL : Ld 12 = false) : Tr W0 D p n pn ph h1 h2 h3 (updV V 12 (.pointer (some ⟨w.heap.size, 0, none⟩))) (upd Ld 12) (w.alloc (.cells #[.int .i64 0, .slice none 0 0, .slice none 0 0, .int .i64 0, .slice none 0 0] 37)) := { H with
  sv := H.sv.trans (Sav.of_below (below_alloc _ _))
  dice := by obtain ⟨R, h⟩ := H.dice; exact ⟨R, h.below (below_alloc _ _)⟩
  g0 := fun e => by obtain ⟨G, m, r⟩ := H.g0 e; exact ⟨G, m, (r.mono (Q := fun b => W0.heap.size ≤ b ∧ ¬ TrC (updV V 12 (.pointer (some ⟨w.heap.size, 0, none⟩))) (upd Ld 12) b) (fun b hlt hb => ⟨hb.1, fun hc => hb.2 (TrC.al0 hlt hc)⟩)).below (below_alloc _ _)⟩
  a0 := fun _ => ⟨_, rfl, H.sv.size, _, _, _, _, _, GiftCell.new _ _ _ _ _ rfl⟩
  s0 := fun e => nfC hL (H.s0 e).1
  g1 := fun e => by obtain ⟨G, m, r⟩ := H.g1 e; exact ⟨G, m, (r.mono (Q := fun b => W0.heap.size ≤ b ∧ ¬ TrC (updV V 12 (.pointer (some ⟨w.heap.size, 0, none⟩))) (upd Ld 12) b) (fun b hlt hb => ⟨hb.1, fun hc => hb.2 (TrC.al0 hlt hc)⟩)).below (below_alloc _ _)⟩
  a1 := fun e => by obtain ⟨g, q1, q2, h, b, v, kh, kv, q3⟩ := H.a1 e; exact ⟨g, q1, q2, h, b, v, kh, kv, q3.alloc _⟩
  s1 := fun e => by obtain ⟨q0, q1, g, h, b, v, kh, kv, q2, q3, q4⟩ := H.s1 e; exact ⟨q0, q1, g, h, b, v, kh, kv, q2, q3, q4.alloc _⟩
  g2 := fun e => by obtain ⟨G, m, r⟩ := H.g2 e; exact ⟨G, m, (r.mono (Q := fun b => W0.heap.size ≤ b ∧ ¬ TrC (updV V 12 (.pointer (some ⟨w.heap.size, 0, none⟩))) (upd Ld 12) b) (fun b hlt hb => ⟨hb.1, fun hc => hb.2 (TrC.al0 hlt hc)⟩)).below (below_alloc _ _)⟩
  a2 := fun e => by obtain ⟨g, q1, q2, h, b, v, kh, kv, q3⟩ := H.a2 e; exact ⟨g, q1, q2, h, b, v, kh, kv, q3.alloc _⟩
  s2 := fun e => by obtain ⟨q0, q1, g, h, b, v, kh, kv, q2, q3, q4⟩ := H.s2 e; exact ⟨q0, q1, g, h, b, v, kh, kv, q2, q3, q4.alloc _⟩
  e12_13 := fun _ e g q1 q2 => by have := ptr_inj (show Value.pointer (some ⟨w.heap.size, 0, none⟩) = .pointer (some ⟨g, 0, none⟩) from q1); obtain ⟨g', r1, r2, h, b, v, kh, kv, r3⟩ := H.a1 e; have := ptr_inj (r1.symm.trans q2); have := r3.lt; omega
  e12_14 := fun _ e g q1 q2 => by have := ptr_inj (show Value.pointer (some ⟨w.heap.size, 0, none⟩) = .pointer (some ⟨g, 0, none⟩) from q1); obtain ⟨g', r1, r2, h, b, v, kh, kv, r3⟩ := H.a2 e; have := ptr_inj (r1.symm.trans q2); have := r3.lt; omega }
theorem TrC.al1 {b : Nat} (hb : b < w.heap.size) (h : TrC (updV V 13 (.pointer (some ⟨w.heap.size, 0, none⟩))) (upd Ld 13) b) : TrC V Ld b := by
  rcases h with ⟨e, q⟩ | ⟨e, q⟩ | ⟨e, q⟩
  · exact .inl ⟨e, q⟩
  · have := ptr_inj (show Value.pointer (some ⟨w.heap.size, 0, none⟩) = .pointer (some ⟨b, 0, none⟩) from q); omega
  · exact .inr (.inr ⟨e, q⟩)
theorem Tr.oA1 (H : Tr W0 D p n pn ph h1 h2 h3 V Ld w) (hL : Ld 13 = false) : Tr W0 D p n pn ph h1 h2 h3 (updV V 13 (.pointer (some ⟨w.heap.size, 0, none⟩))) (upd Ld 13) (w.alloc (.cells #[.int .i64 0, .slice none 0 0, .slice none 0 0, .int .i64 0, .slice none 0 0] 37)) := { H with
  sv := H.sv.trans (Sav.of_below (below_alloc _ _))
  dice := by obtain ⟨R, h⟩ := H.dice; exact ⟨R, h.below (below_alloc _ _)⟩
  g0 := fun e => by obtain ⟨G, m, r⟩ := H.g0 e; exact ⟨G, m, (r.mono (Q := fun b => W0.heap.size ≤ b ∧ ¬ TrC (updV V 13 (.pointer (some ⟨w.heap.size, 0, none⟩))) (upd Ld 13) b) (fun b hlt hb => ⟨hb.1, fun hc => hb.2 (TrC.al1 hlt hc)⟩)).below (below_alloc _ _)⟩
  a0 := fun e => by obtain ⟨g, q1, q2, h, b, v, kh, kv, q3⟩ := H.a0 e; exact ⟨g, q1, q2, h, b, v, kh, kv, q3.alloc _⟩
  s0 := fun e => by obtain ⟨q0, q1, g, h, b, v, kh, kv, q2, q3, q4⟩ := H.s0 e; exact ⟨q0, q1, g, h, b, v, kh, kv, q2, q3, q4.alloc _⟩
  g1 := fun e => by obtain ⟨G, m, r⟩ := H.g1 e; exact ⟨G, m, (r.mono (Q := fun b => W0.heap.size ≤ b ∧ ¬ TrC (updV V 13 (.pointer (some ⟨w.heap.size, 0, none⟩))) (upd Ld 13) b) (fun b hlt hb => ⟨hb.1, fun hc => hb.2 (TrC.al1 hlt hc)⟩)).below (below_alloc _ _)⟩
  a1 := fun _ => ⟨_, rfl, H.sv.size, _, _, _, _, _, GiftCell.new _ _ _ _ _ rfl⟩
  s1 := fun e => nfC hL (H.s1 e).1
  g2 := fun e => by obtain ⟨G, m, r⟩ := H.g2 e; exact ⟨G, m, (r.mono (Q := fun b => W0.heap.size ≤ b ∧ ¬ TrC (updV V 13 (.pointer (some ⟨w.heap.size, 0, none⟩))) (upd Ld 13) b) (fun b hlt hb => ⟨hb.1, fun hc => hb.2 (TrC.al1 hlt hc)⟩)).below (below_alloc _ _)⟩
  a2 := fun e => by obtain ⟨g, q1, q2, h, b, v, kh, kv, q3⟩ := H.a2 e; exact ⟨g, q1, q2, h, b, v, kh, kv, q3.alloc _⟩
  s2 := fun e => by obtain ⟨q0, q1, g, h, b, v, kh, kv, q2, q3, q4⟩ := H.s2 e; exact ⟨q0, q1, g, h, b, v, kh, kv, q2, q3, q4.alloc _⟩
  e12_13 := fun e _ g q1 q2 => by have := ptr_inj (show Value.pointer (some ⟨w.heap.size, 0, none⟩) = .pointer (some ⟨g, 0, none⟩) from q2); obtain ⟨g', r1, r2, h, b, v, kh, kv, r3⟩ := H.a0 e; have := ptr_inj (r1.symm.trans q1); have := r3.lt; omega
  e13_14 := fun _ e g q1 q2 => by have := ptr_inj (show Value.pointer (some ⟨w.heap.size, 0, none⟩) = .pointer (some ⟨g, 0, none⟩) from q1); obtain ⟨g', r1, r2, h, b, v, kh, kv, r3⟩ := H.a2 e; have := ptr_inj (r1.symm.trans q2); have := r3.lt; omega }
theorem TrC.al2 {b : Nat} (hb : b < w.heap.size) (h : TrC (updV V 14 (.pointer (some ⟨w.heap.size, 0, none⟩))) (upd Ld 14) b) : TrC V Ld b := by
  rcases h with ⟨e, q⟩ | ⟨e, q⟩ | ⟨e, q⟩
  · exact .inl ⟨e, q⟩
  · exact .inr (.inl ⟨e, q⟩)
  · have := ptr_inj (show Value.pointer (some ⟨w.heap.size, 0, none⟩) = .pointer (some ⟨b, 0, none⟩) from q); omega
theorem Tr.oA2 (H : Tr W0 D p n pn ph h1 h2 h3 V Ld w) (hL : Ld 14 = false) : Tr W0 D p n pn ph h1 h2 h3 (updV V 14 (.pointer (some ⟨w.heap.size, 0, none⟩))) (upd Ld 14) (w.alloc (.cells #[.int .i64 0, .slice none 0 0, .slice none 0 0, .int .i64 0, .slice none 0 0] 37)) := { H with
  sv := H.sv.trans (Sav.of_below (below_alloc _ _))
  dice := by obtain ⟨R, h⟩ := H.dice; exact ⟨R, h.below (below_alloc _ _)⟩
  g0 := fun e => by obtain ⟨G, m, r⟩ := H.g0 e; exact ⟨G, m, (r.mono (Q := fun b => W0.heap.size ≤ b ∧ ¬ TrC (updV V 14 (.pointer (some ⟨w.heap.size, 0, none⟩))) (upd Ld 14) b) (fun b hlt hb => ⟨hb.1, fun hc => hb.2 (TrC.al2 hlt hc)⟩)).below (below_alloc _ _)⟩
  a0 := fun e => by obtain ⟨g, q1, q2, h, b, v, kh, kv, q3⟩ := H.a0 e; exact ⟨g, q1, q2, h, b, v, kh, kv, q3.alloc _⟩
  s0 := fun e => by obtain ⟨q0, q1, g, h, b, v, kh, kv, q2, q3, q4⟩ := H.s0 e; exact ⟨q0, q1, g, h, b, v, kh, kv, q2, q3, q4.alloc _⟩
  g1 := fun e => by obtain ⟨G, m, r⟩ := H.g1 e; exact ⟨G, m, (r.mono (Q := fun b => W0.heap.size ≤ b ∧ ¬ TrC (updV V 14 (.pointer (some ⟨w.heap.size, 0, none⟩))) (upd Ld 14) b) (fun b hlt hb => ⟨hb.1, fun hc => hb.2 (TrC.al2 hlt hc)⟩)).below (below_alloc _ _)⟩
  a1 := fun e => by obtain ⟨g, q1, q2, h, b, v, kh, kv, q3⟩ := H.a1 e; exact ⟨g, q1, q2, h, b, v, kh, kv, q3.alloc _⟩
  s1 := fun e => by obtain ⟨q0, q1, g, h, b, v, kh, kv, q2, q3, q4⟩ := H.s1 e; exact ⟨q0, q1, g, h, b, v, kh, kv, q2, q3, q4.alloc _⟩
  g2 := fun e => by obtain ⟨G, m, r⟩ := H.g2 e; exact ⟨G, m, (r.mono (Q := fun b => W0.heap.size ≤ b ∧ ¬ TrC (updV V 14 (.pointer (some ⟨w.heap.size, 0, none⟩))) (upd Ld 14) b) (fun b hlt hb => ⟨hb.1, fun hc => hb.2 (TrC.al2 hlt hc)⟩)).below (below_alloc _ _)⟩
  a2 := fun _ => ⟨_, rfl, H.sv.size, _, _, _, _, _, GiftCell.new _ _ _ _ _ rfl⟩
  s2 := fun e => nfC hL (H.s2 e).1
  e12_14 := fun e _ g q1 q2 => by have := ptr_inj (show Value.pointer (some ⟨w.heap.size, 0, none⟩) = .pointer (some ⟨g, 0, none⟩) from q2); obtain ⟨g', r1, r2, h, b, v, kh, kv, r3⟩ := H.a0 e; have := ptr_inj (r1.symm.trans q1); have := r3.lt; omega
  e13_14 := fun e _ g q1 q2 => by have := ptr_inj (show Value.pointer (some ⟨w.heap.size, 0, none⟩) = .pointer (some ⟨g, 0, none⟩) from q2); obtain ⟨g', r1, r2, h, b, v, kh, kv, r3⟩ := H.a1 e; have := ptr_inj (r1.symm.trans q1); have := r3.lt; omega }
theorem Tr.oS0 (H : Tr W0 D p n pn ph h1 h2 h3 V Ld w) (hD : D < W0.heap.size) (hG : Ld 3 = true) (hA : Ld 12 = true) : ∃ w', (Instr.storeAt 37 (V 12) (V 3)).run Tryd.prog w = .ok () w' ∧ Tr W0 D p n pn ph h1 h2 h3 (updV V 15 undef) (upd Ld 15) w' := by
  obtain ⟨g0, q1, q2, h, b, v, kh, kv, q3⟩ := H.a0 hA
  obtain ⟨G, hM, hR⟩ := H.g0 hG
  obtain ⟨A, ca, B, cb, C, cc, ev, -⟩ := hR
  have hs := sav_fill w g0 G.h G.kh (slV A G.bx.length ca) (slV B G.wh.length cb) (slV C G.kv.length cc)
  refine ⟨_, by rw [q1, ev]; exact st_gift q3 _ _ _ _ _ _ _ _ _ _ _, ?_⟩
  exact { H with
    sv := H.sv.trans2 hs (fun b e => .inr (by omega))
    dice := by obtain ⟨R, h⟩ := H.dice; exact ⟨R, h.keep (fun j hj => hs.block j (by have := H.sv.size; omega) (fun e => by omega))⟩
    g0 := fun e => by obtain ⟨G', m, r⟩ := H.g0 e; exact ⟨G', m, r.keep (hs.kept (fun b hb e2 => hb.2 (by have e3 : b = g0 := e2; rw [e3]; exact .inl ⟨hA, q1⟩)))⟩
    a0 := fun _ => ⟨g0, q1, q2, _, _, _, _, _, q3.fill _ _ _ _ _⟩
    s0 := fun _ => ⟨hA, hG, g0, _, _, _, _, _, q1, ev, q3.fill _ _ _ _ _⟩
    g1 := fun e => by obtain ⟨G', m, r⟩ := H.g1 e; exact ⟨G', m, r.keep (hs.kept (fun b hb e2 => hb.2 (by have e3 : b = g0 := e2; rw [e3]; exact .inl ⟨hA, q1⟩)))⟩
    a1 := fun ej => by obtain ⟨g', r1, r2, h, b, v, kh, kv, r3⟩ := H.a1 ej; exact ⟨g', r1, r2, h, b, v, kh, kv, r3.sav hs (fun e => by have e2 : g' = g0 := e; rw [e2] at r1; exact H.e12_13 hA ej _ q1 r1)⟩
    s1 := fun e => by obtain ⟨ej, r0, g', h, b, v, kh, kv, r1, r2, r3⟩ := H.s1 e; exact ⟨ej, r0, g', h, b, v, kh, kv, r1, r2, r3.sav hs (fun e => by have e2 : g' = g0 := e; rw [e2] at r1; exact H.e12_13 hA ej _ q1 r1)⟩
    g2 := fun e => by obtain ⟨G', m, r⟩ := H.g2 e; exact ⟨G', m, r.keep (hs.kept (fun b hb e2 => hb.2 (by have e3 : b = g0 := e2; rw [e3]; exact .inl ⟨hA, q1⟩)))⟩
    a2 := fun ej => by obtain ⟨g', r1, r2, h, b, v, kh, kv, r3⟩ := H.a2 ej; exact ⟨g', r1, r2, h, b, v, kh, kv, r3.sav hs (fun e => by have e2 : g' = g0 := e; rw [e2] at r1; exact H.e12_14 hA ej _ q1 r1)⟩
    s2 := fun e => by obtain ⟨ej, r0, g', h, b, v, kh, kv, r1, r2, r3⟩ := H.s2 e; exact ⟨ej, r0, g', h, b, v, kh, kv, r1, r2, r3.sav hs (fun e => by have e2 : g' = g0 := e; rw [e2] at r1; exact H.e12_14 hA ej _ q1 r1)⟩ }
theorem Tr.oS1 (H : Tr W0 D p n pn ph h1 h2 h3 V Ld w) (hD : D < W0.heap.size) (hG : Ld 7 = true) (hA : Ld 13 = true) : ∃ w', (Instr.storeAt 37 (V 13) (V 7)).run Tryd.prog w = .ok () w' ∧ Tr W0 D p n pn ph h1 h2 h3 (updV V 16 undef) (upd Ld 16) w' := by
  obtain ⟨g0, q1, q2, h, b, v, kh, kv, q3⟩ := H.a1 hA
  obtain ⟨G, hM, hR⟩ := H.g1 hG
  obtain ⟨A, ca, B, cb, C, cc, ev, -⟩ := hR
  have hs := sav_fill w g0 G.h G.kh (slV A G.bx.length ca) (slV B G.wh.length cb) (slV C G.kv.length cc)
  refine ⟨_, by rw [q1, ev]; exact st_gift q3 _ _ _ _ _ _ _ _ _ _ _, ?_⟩
  exact { H with
    sv := H.sv.trans2 hs (fun b e => .inr (by omega))
    dice := by obtain ⟨R, h⟩ := H.dice; exact ⟨R, h.keep (fun j hj => hs.block j (by have := H.sv.size; omega) (fun e => by omega))⟩
    g0 := fun e => by obtain ⟨G', m, r⟩ := H.g0 e; exact ⟨G', m, r.keep (hs.kept (fun b hb e2 => hb.2 (by have e3 : b = g0 := e2; rw [e3]; exact .inr (.inl ⟨hA, q1⟩))))⟩
    a0 := fun ej => by obtain ⟨g', r1, r2, h, b, v, kh, kv, r3⟩ := H.a0 ej; exact ⟨g', r1, r2, h, b, v, kh, kv, r3.sav hs (fun e => by have e2 : g' = g0 := e; rw [e2] at r1; exact H.e12_13 ej hA _ r1 q1)⟩
    s0 := fun e => by obtain ⟨ej, r0, g', h, b, v, kh, kv, r1, r2, r3⟩ := H.s0 e; exact ⟨ej, r0, g', h, b, v, kh, kv, r1, r2, r3.sav hs (fun e => by have e2 : g' = g0 := e; rw [e2] at r1; exact H.e12_13 ej hA _ r1 q1)⟩
    g1 := fun e => by obtain ⟨G', m, r⟩ := H.g1 e; exact ⟨G', m, r.keep (hs.kept (fun b hb e2 => hb.2 (by have e3 : b = g0 := e2; rw [e3]; exact .inr (.inl ⟨hA, q1⟩))))⟩
    a1 := fun _ => ⟨g0, q1, q2, _, _, _, _, _, q3.fill _ _ _ _ _⟩
    s1 := fun _ => ⟨hA, hG, g0, _, _, _, _, _, q1, ev, q3.fill _ _ _ _ _⟩
    g2 := fun e => by obtain ⟨G', m, r⟩ := H.g2 e; exact ⟨G', m, r.keep (hs.kept (fun b hb e2 => hb.2 (by have e3 : b = g0 := e2; rw [e3]; exact .inr (.inl ⟨hA, q1⟩))))⟩
    a2 := fun ej => by obtain ⟨g', r1, r2, h, b, v, kh, kv, r3⟩ := H.a2 ej; exact ⟨g', r1, r2, h, b, v, kh, kv, r3.sav hs (fun e => by have e2 : g' = g0 := e; rw [e2] at r1; exact H.e13_14 hA ej _ q1 r1)⟩
    s2 := fun e => by obtain ⟨ej, r0, g', h, b, v, kh, kv, r1, r2, r3⟩ := H.s2 e; exact ⟨ej, r0, g', h, b, v, kh, kv, r1, r2, r3.sav hs (fun e => by have e2 : g' = g0 := e; rw [e2] at r1; exact H.e13_14 hA ej _ q1 r1)⟩ }
theorem Tr.oS2 (H : Tr W0 D p n pn ph h1 h2 h3 V Ld w) (hD : D < W0.heap.size) (hG : Ld 11 = true) (hA : Ld 14 = true) : ∃ w', (Instr.storeAt 37 (V 14) (V 11)).run Tryd.prog w = .ok () w' ∧ Tr W0 D p n pn ph h1 h2 h3 (updV V 17 undef) (upd Ld 17) w' := by
  obtain ⟨g0, q1, q2, h, b, v, kh, kv, q3⟩ := H.a2 hA
  obtain ⟨G, hM, hR⟩ := H.g2 hG
  obtain ⟨A, ca, B, cb, C, cc, ev, -⟩ := hR
  have hs := sav_fill w g0 G.h G.kh (slV A G.bx.length ca) (slV B G.wh.length cb) (slV C G.kv.length cc)
  refine ⟨_, by rw [q1, ev]; exact st_gift q3 _ _ _ _ _ _ _ _ _ _ _, ?_⟩
  exact { H with
    sv := H.sv.trans2 hs (fun b e => .inr (by omega))
    dice := by obtain ⟨R, h⟩ := H.dice; exact ⟨R, h.keep (fun j hj => hs.block j (by have := H.sv.size; omega) (fun e => by omega))⟩
    g0 := fun e => by obtain ⟨G', m, r⟩ := H.g0 e; exact ⟨G', m, r.keep (hs.kept (fun b hb e2 => hb.2 (by have e3 : b = g0 := e2; rw [e3]; exact .inr (.inr ⟨hA, q1⟩))))⟩
    a0 := fun ej => by obtain ⟨g', r1, r2, h, b, v, kh, kv, r3⟩ := H.a0 ej; exact ⟨g', r1, r2, h, b, v, kh, kv, r3.sav hs (fun e => by have e2 : g' = g0 := e; rw [e2] at r1; exact H.e12_14 ej hA _ r1 q1)⟩
    s0 := fun e => by obtain ⟨ej, r0, g', h, b, v, kh, kv, r1, r2, r3⟩ := H.s0 e; exact ⟨ej, r0, g', h, b, v, kh, kv, r1, r2, r3.sav hs (fun e => by have e2 : g' = g0 := e; rw [e2] at r1; exact H.e12_14 ej hA _ r1 q1)⟩
    g1 := fun e => by obtain ⟨G', m, r⟩ := H.g1 e; exact ⟨G', m, r.keep (hs.kept (fun b hb e2 => hb.2 (by have e3 : b = g0 := e2; rw [e3]; exact .inr (.inr ⟨hA, q1⟩))))⟩
    a1 := fun ej => by obtain ⟨g', r1, r2, h, b, v, kh, kv, r3⟩ := H.a1 ej; exact ⟨g', r1, r2, h, b, v, kh, kv, r3.sav hs (fun e => by have e2 : g' = g0 := e; rw [e2] at r1; exact H.e13_14 ej hA _ r1 q1)⟩
    s1 := fun e => by obtain ⟨ej, r0, g', h, b, v, kh, kv, r1, r2, r3⟩ := H.s1 e; exact ⟨ej, r0, g', h, b, v, kh, kv, r1, r2, r3.sav hs (fun e => by have e2 : g' = g0 := e; rw [e2] at r1; exact H.e13_14 ej hA _ r1 q1)⟩
    g2 := fun e => by obtain ⟨G', m, r⟩ := H.g2 e; exact ⟨G', m, r.keep (hs.kept (fun b hb e2 => hb.2 (by have e3 : b = g0 := e2; rw [e3]; exact .inr (.inr ⟨hA, q1⟩))))⟩
    a2 := fun _ => ⟨g0, q1, q2, _, _, _, _, _, q3.fill _ _ _ _ _⟩
    s2 := fun _ => ⟨hA, hG, g0, _, _, _, _, _, q1, ev, q3.fill _ _ _ _ _⟩ }
/-- A variable that holds a gift. -/
def GftAt (w : World) (base g p n : Nat) (h : Int) (X : Nat → Prop) : Prop := ∃ G A ca B cb C cc, GiftM p h n G ∧ GiftCell w g G.h (slV A G.bx.length ca) (slV B G.wh.length cb) G.kh (slV C G.kv.length cc) ∧ GiftR (fun b => base ≤ b ∧ ¬ X b) w (giftV G.h (slV A G.bx.length ca) (slV B G.wh.length cb) G.kh (slV C G.kv.length cc)) G
theorem giftV_inj {h h' kh kh' : Int} {b b' v v' kv kv' : Value} (e : giftV h b v kh kv = giftV h' b' v' kh' kv') : h = h' ∧ b = b' ∧ v = v' ∧ kh = kh' ∧ kv = kv' := by
  unfold giftV at e
  injection e with e
  simp only [Array.mk.injEq, List.cons.injEq, Value.int.injEq, true_and, and_true] at e
  exact e
theorem Tr.f0 (H : Tr W0 D p n pn ph h1 h2 h3 V Ld w) (hS : Ld 15 = true) : ∃ g, V 12 = .pointer (some ⟨g, 0, none⟩) ∧ W0.heap.size ≤ g ∧ GftAt w W0.heap.size g p n h1 (TrC V Ld) := by
  obtain ⟨hA, hG, g0, h, b, v, kh, kv, q1, q2, q3⟩ := H.s0 hS
  obtain ⟨G, hM, hR⟩ := H.g0 hG
  obtain ⟨g', r1, r2, -⟩ := H.a0 hA
  have e : g' = g0 := ptr_inj (r1.symm.trans q1)
  subst e
  obtain ⟨A, ca, B, cb, C, cc, ev, t1, t2, t3⟩ := hR
  obtain ⟨rfl, rfl, rfl, rfl, rfl⟩ := giftV_inj (q2.symm.trans ev)
  exact ⟨g', q1, r2, G, A, ca, B, cb, C, cc, hM, q3, A, ca, B, cb, C, cc, rfl, t1, t2, t3⟩
theorem Tr.f1 (H : Tr W0 D p n pn ph h1 h2 h3 V Ld w) (hS : Ld 16 = true) : ∃ g, V 13 = .pointer (some ⟨g, 0, none⟩) ∧ W0.heap.size ≤ g ∧ GftAt w W0.heap.size g p n h2 (TrC V Ld) := by
  obtain ⟨hA, hG, g0, h, b, v, kh, kv, q1, q2, q3⟩ := H.s1 hS
  obtain ⟨G, hM, hR⟩ := H.g1 hG
  obtain ⟨g', r1, r2, -⟩ := H.a1 hA
  have e : g' = g0 := ptr_inj (r1.symm.trans q1)
  subst e
  obtain ⟨A, ca, B, cb, C, cc, ev, t1, t2, t3⟩ := hR
  obtain ⟨rfl, rfl, rfl, rfl, rfl⟩ := giftV_inj (q2.symm.trans ev)
  exact ⟨g', q1, r2, G, A, ca, B, cb, C, cc, hM, q3, A, ca, B, cb, C, cc, rfl, t1, t2, t3⟩
theorem Tr.f2 (H : Tr W0 D p n pn ph h1 h2 h3 V Ld w) (hS : Ld 17 = true) : ∃ g, V 14 = .pointer (some ⟨g, 0, none⟩) ∧ W0.heap.size ≤ g ∧ GftAt w W0.heap.size g p n h3 (TrC V Ld) := by
  obtain ⟨hA, hG, g0, h, b, v, kh, kv, q1, q2, q3⟩ := H.s2 hS
  obtain ⟨G, hM, hR⟩ := H.g2 hG
  obtain ⟨g', r1, r2, -⟩ := H.a2 hA
  have e : g' = g0 := ptr_inj (r1.symm.trans q1)
  subst e
  obtain ⟨A, ca, B, cb, C, cc, ev, t1, t2, t3⟩ := hR
  obtain ⟨rfl, rfl, rfl, rfl, rfl⟩ := giftV_inj (q2.symm.trans ev)
  exact ⟨g', q1, r2, G, A, ca, B, cb, C, cc, hM, q3, A, ca, B, cb, C, cc, rfl, t1, t2, t3⟩
end
end Go.Proofs.YtjckpammcgeloaaDoor
namespace Go.Proofs.YtjckpammcgeloaaDoor
open Go.RowKit

theorem gm_small {p n : Nat} {h : Int} {G : GiftD} (H : GiftM p h n G) (hn : n ≤ 100) : GSmall G :=
  ⟨fun k hk => by have := (H.bv k (by rw [← H.bl]; exact hk)).1; have := H.bl; omega, fun k hk => by have := (H.wv k (by rw [← H.wl]; exact hk)).1; omega, by have := H.kv.1; omega, by have := H.bl; omega, by have := H.wl; omega⟩
theorem gm_tiny {p n : Nat} {h : Int} {G : GiftD} (H : GiftM p h n G) (hn : n ≤ 10) : GTiny G :=
  ⟨fun k hk => by have := (H.bv k (by rw [← H.bl]; exact hk)).1; have := H.bl; omega, fun k hk => by have := (H.wv k (by rw [← H.wl]; exact hk)).1; omega, by have := H.kv.1; omega, by have := H.bl; omega, by have := H.wl; omega⟩
theorem chk_oth (k : Int) (h : inI k 0 5 = true) : chkE 500000003 2 4 2 k = 0 := (chk_ok (plB_true (p := 500000003) (n := 2) (h := 4) (by omega) (by omega) (by omega) (by omega) (prime_valid prime_500000003 (by omega)).2) (by decide) h).symm
theorem sp_old {G O X : GiftD} (h : G.h = 2) : spE ((500000003 : Nat) : Int) 2 4 2 3 G = 0 ∧ spB ((500000003 : Nat) : Int) 2 4 2 3 G = true ∧ spG 500000003 2 4 2 3 0 G O X = ⟨2, O.bx, O.wh, G.kh, G.kv⟩ := by
  obtain ⟨a, b, c⟩ := sp_ok (lb := 0) (O := O) (X := X) (p := 500000003) (chk_oth 3 (by decide)) h (by omega)
  refine ⟨a, b, c.trans ?_⟩
  rw [← h]; rfl
theorem sp_cpy {G O X : GiftD} (h : G.h = 2) : spE ((500000003 : Nat) : Int) 2 4 2 5 G = 0 ∧ spB ((500000003 : Nat) : Int) 2 4 2 5 G = true ∧ spG 500000003 2 4 2 5 0 G O X = ⟨2, X.bx.map (nameS 2), X.wh.map (nameS 2), 2, X.kv⟩ := by
  obtain ⟨a, b, c⟩ := sp_ok (lb := 0) (O := O) (X := X) (p := 500000003) (chk_oth 5 (by decide)) h (by omega)
  refine ⟨a, b, c.trans ?_⟩
  rw [← h]; rfl
theorem hS_name {y : Int} {S : List Shr} {k : Nat} (h : k < S.length) : hS (S.map (nameS y)) k = y := by
  simp [hS, nameS, List.getD_eq_getElem?_getD, List.getElem?_map, List.getElem?_eq_getElem h]
theorem vS_name {y : Int} {S : List Shr} {k : Nat} : vS (S.map (nameS y)) k = vS S k := by
  rcases Nat.lt_or_ge k S.length with h | h
  · simp [vS, nameS, List.getD_eq_getElem?_getD, List.getElem?_map, List.getElem?_eq_getElem h]
  · simp [vS, List.getD_eq_getElem?_getD, List.getElem?_map, List.getElem?_eq_none h]
theorem one_el {L : List Int} (h : L.length = 1) : L = [nth L 0] := by
  match L, h with
  | [x], _ => rfl
/-- A made gift in a variable, with its numbers. -/
theorem GftAt.open_ {w : World} {base g p n : Nat} {h : Int} {X : Nat → Prop} (H : GftAt w base g p n h X) :
    ∃ A ca B cb C cc S T m, GiftCell w g h (.slice A n ca) (.slice B n cb) h (.slice C 1 cc) ∧ GiftM p h n ⟨h, S, T, h, [m]⟩ ∧ GiftR (fun b => base ≤ b ∧ ¬ X b) w (giftV h (.slice A n ca) (.slice B n cb) h (.slice C 1 cc)) ⟨h, S, T, h, [m]⟩ := by
  obtain ⟨⟨gh, S, T, kh, M⟩, A, ca, B, cb, C, cc, hM, hC, hR⟩ := H
  have e1 : gh = h := hM.hd
  have e2 : kh = h := hM.kh
  have e3 : S.length = n := hM.bl
  have e4 : T.length = n := hM.wl
  have e5 : M.length = 1 := hM.kv.1
  subst e1 e2
  refine ⟨A, ca, B, cb, C, cc, S, T, nth M 0, ?_, ?_, ?_⟩
  · have := hC; simp only [slV, e3, e4, e5] at this; exact this
  · rw [← one_el e5]; exact hM
  · have := hR; simp only [slV, e3, e4, e5] at this; rw [← one_el e5]; exact this
/-- A gift that a call returns, with given lengths. -/
theorem GiftR.open_ {P : Nat → Prop} {w : World} {v : Value} {h kh : Int} {S T : List Shr} {M : List Int} {n m l : Nat} (H : GiftR P w v ⟨h, S, T, kh, M⟩) (e1 : S.length = n) (e2 : T.length = m) (e3 : M.length = l) :
    ∃ A ca B cb C cc, v = giftV h (.slice A n ca) (.slice B m cb) kh (.slice C l cc) ∧ ShP P w A ca S ∧ ShP P w B cb T ∧ IntsP P w C cc M := by
  obtain ⟨A, ca, B, cb, C, cc, rfl, h1, h2, h3⟩ := H
  subst e1 e2 e3
  exact ⟨A, ca, B, cb, C, cc, rfl, h1, h2, h3⟩
/-- One share of a list, and its values. -/
theorem ShP.one {P : Nat → Prop} {w : World} {A : Option Addr} {c : Nat} {S : List Shr} (H : ShP P w A c S) {k : Nat} (hk : k < S.length) :
    ∃ b off B d, A = some ⟨b, off, none⟩ ∧ b < w.heap.size ∧ P b ∧ w.cell? ⟨b, off + k * 2, none⟩ = some (.int .i64 (hS S k)) ∧ w.cell? ⟨b, off + k * 2 + 1, none⟩ = some (.slice B (vS S k).length d) ∧ IntsP P w B d (vS S k) := by
  obtain ⟨b, off, B, d, hA, hlt, hP, h1, h2, h3⟩ := H.at_ k hk
  exact ⟨b, off, B, d, hA, hlt, hP, h1, h2, h3⟩
theorem IntsP.one {P : Nat → Prop} {w : World} {A : Option Addr} {c : Nat} {L : List Int} (H : IntsP P w A c L) (h : 0 < L.length) : ∃ b off, A = some ⟨b, off, none⟩ ∧ b < w.heap.size ∧ w.cell? ⟨b, off, none⟩ = some (.int .i64 (nth L 0)) := by
  obtain ⟨b, off, hA, hb, hc⟩ := H.ints 0 h
  exact ⟨b, off, hA, hb, by rw [Nat.add_zero] at hc; exact hc⟩
theorem same_self {P P' : Nat → Prop} (A A' : Option Addr) (S : List Shr) (c c' n : Nat) (W : World) (hA : ShP P W A c S) (hA' : ShP P' W A' c' S) (hsh : Short S) (hl : S.length = n) (hn : n ≤ 1000) :
    Calls Tryd.prog 24 #[.slice A n c, .slice A' n c'] W (RetB (.bool true) W) := by
  subst hl
  have hc := refSame_any A A' S S c c' W hA hA' hsh (by omega)
  rw [eqShs_refl] at hc
  exact hc
theorem same_one {P P' : Nat → Prop} {W : World} {g g' : Nat} {h m : Int} {C C' : Option Addr} {c c' : Nat} (h1 : W.heap[g]? = some (.cells #[.int .i64 h, .slice C 1 c] 35 (0, 0))) (h2 : W.heap[g']? = some (.cells #[.int .i64 h, .slice C' 1 c'] 35 (0, 0)))
    (i1 : IntsP P W C c [m]) (i2 : IntsP P' W C' c' [m]) : Calls Tryd.prog 24 #[.slice (some ⟨g, 0, none⟩) 1 1, .slice (some ⟨g', 0, none⟩) 1 1] W (RetB (.bool true) W) :=
  same_self (P := fun _ => True) (P' := fun _ => True) _ _ [(h, [m])] 1 1 1 W (lit_one h1 trivial (i1.mono (fun _ _ _ => trivial))) (lit_one h2 trivial (i2.mono (fun _ _ _ => trivial))) (fun k hk => by
    have : k = 0 := by simp at hk; omega
    subst this; simp [vS]) rfl (by omega)
theorem enter_awake42 (args : Array Value) (w : World) : (callFunc 8 args).run Tryd.prog w = .ok (.enter 8 args) w :=
  Go.MuLone.run_callFunc_enter Tryd.func8 (by kernel_rfl) rfl args w
theorem enter_same06 (args : Array Value) (w : World) : (callFunc 24 args).run Tryd.prog w = .ok (.enter 24 args) w :=
  Go.MuLone.run_callFunc_enter Tryd.func24 (by kernel_rfl) rfl args w
end Go.Proofs.YtjckpammcgeloaaDoor
namespace Go.Proofs.YtjckpammcgeloaaDoor
open Go.RowKit

/-! ### Guarded operations -/
section
variable {P : Program} {ops : Array Oper} {o : Oper} {a : Act} {K : Act → World → Prop} {Q : Exit → Act → World → Prop} {E : Prop} {w : World}
theorem G_g (hw : Region.wanted o (yielded ops a.tmps) = true) (h : if Region.wanted { o with guard := none } (yielded ops a.tmps) = true then Oper.wp P { o with guard := none } a w K Q else False) : if Region.wanted o (yielded ops a.tmps) = true then Oper.wp P o a w K Q else E := by
  rw [if_pos hw]
  rw [if_pos (by simp [Region.wanted])] at h
  exact h
theorem G_un (hw : Region.wanted o (yielded ops a.tmps) = false) (h : K (a.put o.dst undef) w) : if Region.wanted o (yielded ops a.tmps) = true then Oper.wp P o a w K Q else K (a.put o.dst undef) w := by
  rw [if_neg (by rw [hw]; decide)]; exact h
theorem RJ.yld {a0 : Act} {V : Nat → Value} {L : Nat → Bool} (h : RJ ops a0 V L a) {j : Nat} {p : Oper} (hj : ops[j]? = some p) {d : Nat} (hd : p.dst = some d) (hL : L j = true) {b : Bool} (hv : V j = .bool b) : yielded ops a.tmps j = some b := by
  have h1 := h.val j p hj d hd hL
  rw [hv] at h1
  unfold yielded
  rw [hj]
  simp only [Option.bind_some, hd]
  cases ht : a.tmps[d]? with
  | none => rw [ht] at h1; cases h1
  | some v => rw [ht] at h1; simp only [Option.getD_some] at h1; rw [h1]
theorem RJ.want' {a0 : Act} {V : Nat → Value} {L : Nat → Bool} (h : RJ ops a0 V L a) (j : Nat) {b : Bool} (hg : o.guard = some (j, b)) {p : Oper} (hj : ops[j]? = some p) {d : Nat} (hd : p.dst = some d) (hL : L j = true) (hv : V j = .bool b) : Region.wanted o (yielded ops a.tmps) = true := by
  unfold Region.wanted
  rw [hg]
  simp only
  rw [h.yld hj hd hL hv]
  simp
theorem RJ.unwant' {a0 : Act} {V : Nat → Value} {L : Nat → Bool} (h : RJ ops a0 V L a) (j : Nat) {b : Bool} (hg : o.guard = some (j, b)) {p : Oper} (hj : ops[j]? = some p) {d : Nat} (hd : p.dst = some d) (hL : L j = true) (hv : V j = .bool (!b)) : Region.wanted o (yielded ops a.tmps) = false := by
  unfold Region.wanted
  rw [hg]
  simp only
  rw [h.yld hj hd hL hv]
  cases b <;> rfl
theorem G_pick (hgd : o.guard = none) (c x y : Operand) (ho : o.op = .pick c x y) {b : Bool} (hc : a.eval c = .bool b) {v : Value} (hv : (if b then a.eval x else a.eval y) = v) (hK : K (a.put o.dst v) w) :
    if Region.wanted o (yielded ops a.tmps) = true then Oper.wp P o a w K Q else E :=
  J_val hgd (w' := w) (v := v) (by unfold execOp; rw [ho]; simp only [hc]; rw [← hv]; rfl) hK
theorem G_unOp (hgd : o.guard = none) (b : UnOp) (t : TypeId) (x : Operand) (ho : o.op = .unOp b t x) {v : Value} (h : (Op.unary b (a.eval x)).run P w = .ok v w) (hK : K (a.put o.dst v) w) :
    if Region.wanted o (yielded ops a.tmps) = true then Oper.wp P o a w K Q else E :=
  J_val hgd (by unfold execOp; rw [ho]; exact run_val h) hK
theorem G_move (hgd : o.guard = none) (x : Operand) (ho : o.op = .move x) {v : Value} (e : a.eval x = v) (hK : K (a.put o.dst v) w) :
    if Region.wanted o (yielded ops a.tmps) = true then Oper.wp P o a w K Q else E := by
  rw [← e] at hK; exact J_move hgd x ho hK
theorem G_assign (hgd : o.guard = none) (x : Operand) (ho : o.op = .assign x) {v : Value} (e : a.eval x = v) (hK : K (a.put o.dst v) w) :
    if Region.wanted o (yielded ops a.tmps) = true then Oper.wp P o a w K Q else E := by
  rw [← e] at hK; exact J_assign hgd x ho hK
theorem G_slice (hgd : o.guard = none) (t : TypeId) (x : Operand) (lo hi mx : Option Operand) (ho : o.op = .slice t x lo hi mx) {v : Value} (h : (Instr.sliceAt t (a.eval x) (lo.map a.eval) (hi.map a.eval) (mx.map a.eval)).run P w = .ok v w) (hK : K (a.put o.dst v) w) :
    if Region.wanted o (yielded ops a.tmps) = true then Oper.wp P o a w K Q else E :=
  J_val hgd (by unfold execOp; rw [ho]; exact run_val h) hK
end
/-- A property of an operation's value, which later worlds keep. -/
structure Pr (R : World → World → Prop) where
  p : Value → World → Prop
  mono : ∀ v w w', p v w → R w w' → p v w'
def Pr.eq {R : World → World → Prop} (v : Value) : Pr R := ⟨fun u _ => u = v, fun _ _ _ h _ => h⟩
def Pr.any {R : World → World → Prop} : Pr R := ⟨fun _ _ => True, fun _ _ _ h _ => h⟩
/-- What holds of a region that is under way. -/
structure GI {R : World → World → Prop} (PL : List (Pr R)) (S : (Nat → Value) → (Nat → Bool) → World → Prop) (V : Nat → Value) (L : Nat → Bool) (w : World) : Prop where
  st : S V L w
  val : ∀ i q, PL[i]? = some q → L i = true → q.p (V i) w
section
variable {R : World → World → Prop} {PL : List (Pr R)} {S : (Nat → Value) → (Nat → Bool) → World → Prop} {V : Nat → Value} {L : Nat → Bool} {w w' : World}
theorem GI.start {V : Nat → Value} (h : S V (fun _ => false) w) : GI PL S V (fun _ => false) w := ⟨h, fun _ _ _ e => by cases e⟩
theorem GI.put (h : GI PL S V L w) (hr : R w w') (i : Nat) {q : Pr R} (hq : PL[i]? = some q) {v : Value} (hv : q.p v w') (hs : S (updV V i v) (upd L i) w') : GI PL S (updV V i v) (upd L i) w' := by
  refine ⟨hs, fun j q' hj e => ?_⟩
  by_cases hji : j = i
  · subst hji
    rw [updV_same]
    rw [hq] at hj
    injection hj with hj
    rw [← hj]; exact hv
  · rw [updV_other _ _ hji]
    rw [upd_other _ hji] at e
    exact q'.mono _ _ _ (h.val j q' hj e) hr
theorem GI.put0 (h : GI PL S V L w) (i : Nat) {q : Pr R} (hq : PL[i]? = some q) {v : Value} (hv : q.p v w) (hs : S (updV V i v) (upd L i) w) : GI PL S (updV V i v) (upd L i) w := by
  refine ⟨hs, fun j q' hj e => ?_⟩
  by_cases hji : j = i
  · subst hji
    rw [updV_same]
    rw [hq] at hj
    injection hj with hj
    rw [← hj]; exact hv
  · rw [updV_other _ _ hji]
    rw [upd_other _ hji] at e
    exact h.val j q' hj e
end
/-- The world has only grown. -/
def GrS (W0 : World) (_ : Nat → Value) (_ : Nat → Bool) (w : World) : Prop := Below W0.heap.size W0 w
theorem GrS.bl {W0 : World} {V : Nat → Value} {L : Nat → Bool} {w : World} (h : GrS W0 V L w) : Below W0.heap.size W0 w := h
theorem GrS.up {W0 : World} {V V' : Nat → Value} {L L' : Nat → Bool} {w : World} (h : GrS W0 V L w) : GrS W0 V' L' w := h
theorem GrS.to {W0 : World} {V V' : Nat → Value} {L L' : Nat → Bool} {w w' : World} (h : GrS W0 V L w) (hb : Below w.heap.size w w') : GrS W0 V' L' w' := below_trans h hb
theorem GrS.start (W0 : World) (V : Nat → Value) (L : Nat → Bool) : GrS W0 V L W0.drew := (Below.refl _ _).drew
/-- Worlds that only grow. -/
def Bl (w w' : World) : Prop := Below w.heap.size w w'
/-- A literal of the call's own, in a block that came behind B. -/
def Pr.lit (B : Nat) (n : Nat) (cs : Array Value) (ty : TypeId) : Pr Bl :=
  ⟨fun u w => ∃ g, u = .slice (some ⟨g, 0, none⟩) n n ∧ B ≤ g ∧ w.heap[g]? = some (.cells cs ty (0, 0)), fun _ w w' h hb => by
    obtain ⟨g, e, hg, hh⟩ := h
    have hlt : g < w.heap.size := by
      rcases Nat.lt_or_ge g w.heap.size with h1 | h1
      · exact h1
      · rw [Array.getElem?_eq_none h1] at hh; cases hh
    exact ⟨g, e, hg, (Below.block hb g hlt).trans hh⟩⟩
end Go.Proofs.YtjckpammcgeloaaDoor
