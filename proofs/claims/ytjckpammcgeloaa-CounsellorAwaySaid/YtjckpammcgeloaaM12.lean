/-
  Desks: the walk of play.Desk.
  Desks: the beginning of the laws over a desk made by dice.
  Desks: the drawn regions of CounsellorAway (a throw, a call that returns a desk, variables made and stored).
  Conditions: those that each theorem names.
-/
import Derived.Test.YtjckpammcgeloaaM11
set_option linter.unusedVariables false
set_option linter.unusedSimpArgs false
namespace Go.Proofs.Ytjckpammcgeloaa
open Go.RowKit

theorem enter_nxt (args : Array Value) (w : World) : (callFunc 12 args).run Try.prog w = .ok (.enter 12 args) w :=
 Go.MuLone.run_callFunc_enter Try.func12 (by kernel_rfl) rfl args w
theorem enter_word (args : Array Value) (w : World) : (callFunc 15 args).run Try.prog w = .ok (.enter 15 args) w :=
 Go.MuLone.run_callFunc_enter Try.func15 (by kernel_rfl) rfl args w
theorem enter_one (args : Array Value) (w : World) : (callFunc 24 args).run Try.prog w = .ok (.enter 24 args) w :=
 Go.MuLone.run_callFunc_enter Try.func24 (by kernel_rfl) rfl args w
def strPr {R : World → World → Prop} : Pr R := ⟨fun u _ => ∃ s : ByteArray, u = .string s ∧ s.size ≤ 1000, fun _ _ _ h _ => h⟩
def blnPr {R : World → World → Prop} : Pr R := ⟨fun u _ => ∃ b : Bool, u = .bool b, fun _ _ _ h _ => h⟩
def casPr {R : World → World → Prop} : Pr R := ⟨fun u _ => ∃ x : CaseD, u = caseV x ∧ okC x, fun _ _ _ h _ => h⟩
theorem bd_case (w : World) (i : Int) (s o : ByteArray) (t : Int) (b : Bool) : (Instr.build 37 #[(0, .int .i64 i), (1, .string s), (2, .string o), (3,   .int .i64 t), (4, .bool b)]).run Try.prog w = .ok (caseV ⟨i, s, o, t, b⟩) w := by
 show _ = Result.ok (Value.agg #[.int .i64 i, .string s,   .string o, .int .i64 t, .bool b]) w
 go_simp
theorem bs_abc (w : World) : (Instr.buildSlice 43 3 #[(0, .string ⟨#[97, 110, 110]⟩), (1, .string ⟨#[98, 111, 98]⟩), (2, .string ⟨#[99, 105, 100]⟩)]).run Try.prog w = .ok (.slice (some ⟨w.heap.size, 0, none⟩) 3 3) (w.alloc (.cells ([bAnn, bBob, bCid].map Value.string).toArray 9)) := by
 show _ = Result.ok _ (w.alloc (.cells #[.string ⟨#[97, 110, 110]⟩, .string ⟨#[98, 111, 98]⟩, .string ⟨#[99, 105, 100]⟩] 9))
 go_simp
theorem abc_small (R : List Int) : (wordV [bAnn, bBob, bCid] R).size ≤ 1000 := by
 have h := wordV_in (L := [bAnn, bBob, bCid]) (R := R) (by decide)
 simp only [List.mem_cons, List.mem_nil_iff, or_false] at h
 rcases h with e | e | e <;> rw [e] <;> decide
theorem role_cases (R : List Int) : wordV [bHr, bLegal, bHr] R = bHr ∨ wordV [bHr, bLegal, bHr] R = bLegal := by
 have h := wordV_in (L := [bHr, bLegal, bHr]) (R := R) (by decide)
 simp only [List.mem_cons, List.mem_nil_iff, or_false] at h
 rcases h with e | e | e
 ·
  exact .inl e
 ·
  exact .inr e
 ·
  exact .inl e
theorem who_cases (R : List Int) : wordV [bAnn, bBob] R = bAnn ∨ wordV [bAnn, bBob] R = bBob := by
 have h := wordV_in (L := [bAnn, bBob]) (R := R) (by decide)
 simp only [List.mem_cons, List.mem_nil_iff, or_false] at h
 exact h
theorem PlS.start {w : World} {Dd : Nat} {R : List Int} (h : DiceAt w Dd R) : PlS w ((w.alloc (.cells #[.slice none 0 0, .slice none 0 0] 30)).alloc (.cells #[.slice none 0 0, .slice none 0 0] 30)) Dd w.heap.size R (.slice none 0 0) (.slice none 0 0) ⟨[], []⟩ := by
 have hb := bl_alloc (.cells #[.slice none 0 0, .slice none 0 0] 30) (below_alloc w (.cells #[.slice none 0 0, .slice none 0 0] 30))
 exact ⟨h.below hb, grown_of_below hb, h.lt, rfl, (DeskCell.new _ _ rfl).below (below_alloc _ _), DeskCell.new _ _ (by simp), ⟨⟨[], ElOwn.nil _ _ _ _, CousV.nil _ _⟩, ElOwn.nil _ _ _ _, fun b e => (by cases e)⟩⟩
theorem pl_store {w w4 w8 : World} {Dd B cb : Nat} {R4 R8 : List Int} {u v : Value} {D : DeskD} (h : PlS w w4 Dd B R4 u v D) (hg : w4.grownBy w8 (some Dd)) (hd : DiceAt w8 Dd R8) (hcb : w4.heap.size = cb) (hlt : cb < w8.heap.size) (s : ByteArray) (y : Value) :
  PlS w ((w8.setCell ⟨cb, 2, none⟩ y).alloc (.cells #[.string s] 9)) Dd B R8 u v D ∧ ((w8.setCell ⟨cb, 2, none⟩ y).alloc (.cells #[.string s] 9)).heap.size = w8.heap.size + 1 ∧ ElP ES (fun b => B + 1 + 1 ≤ b ∧ u.ownBlock ≠ some b ∧ v.ownBlock ≠ some b) ((w8.setCell ⟨cb, 2, none⟩ y).alloc (.cells #[.string s] 9)) (some ⟨w8.heap.size, 0, none⟩) 1 [s] := by
 have hb := below_alloc (w8.setCell ⟨cb, 2, none⟩ y) (.cells #[.string s] 9)
 have hsz : (w8.setCell ⟨cb, 2, none⟩ y).heap.size = w8.heap.size := by simp [World.setCell]
 have hx := h.x.lt
 have hl := h.lo
 have g9 : w4.grownBy ((w8.setCell ⟨cb, 2, none⟩ y).alloc (.cells #[.string s] 9)) (some Dd) :=
  grown_trans (show w4.grownBy (w8.setCell ⟨cb, 2, none⟩ y) (some Dd) from ⟨hg.os, hg.tape, hg.output, by rw [hsz]; exact hg.size, fun k hk hne => (Below.heap_setCell w8 ⟨cb, 2, none⟩ y k (fun e => by have e2 : k = cb := e; omega)).trans (hg.block k hk hne)⟩) (grown_of_below hb)
 have d9 := (hd.setCell ⟨cb, 2, none⟩ y (by show Dd < cb; omega)).below hb
 have hlit := lit_strs (w8.setCell ⟨cb, 2, none⟩ y) [s] 1 rfl (by simp)
 rw [hsz] at hlit
 obtain ⟨X, q1, -⟩ := h.o.cs
 refine ⟨h.dice d9 g9, by simp [World.setCell], hlit.mono fun b _ e => ⟨by omega, fun e2 => ?_, fun e2 => ?_⟩⟩
 ·
  have := (World.ownsRow.lt q1 b e2).2; omega
 ·
  have := (World.ownsRow.lt h.o.ks b e2).2; omega
theorem PlS.cou {w wr : World} {Dd B : Nat} {R : List Int} {A : Option Addr} {c : Nat} {v : Value} {C : List CouD} {K : List CaseD} (h : PlS w wr Dd B R (.slice A C.length c) v ⟨C, K⟩) : CousP (fun b => B + 1 + 1 ≤ b) wr A c C := by
 obtain ⟨X, q1, q2⟩ := h.o.cs
 obtain ⟨A', c', e, hE⟩ := q1.toP
 injection e with e1 e2 e3
 subst e1 e3
 exact ⟨X, hE.mono fun b _ hb => hb.2, q2.mono fun b _ hb => hb.1⟩
theorem PlS.fin {w wr : World} {Dd B : Nat} {R : List Int} {u v : Value} {C : List CouD} {K : List CaseD} (h : PlS w wr Dd B R u v ⟨C, K⟩) (hC : PlC C) (hl : C.length ≤ 4) (hK : PlK K) (hk : K.length ≤ 6) :
  DeskPl Dd w (.returned (.agg #[u, v])) ((wr.setCell ⟨B, 0, none⟩ u).setCell ⟨B, 1, none⟩ v) ∧ DeskCell ((wr.setCell ⟨B, 0, none⟩ u).setCell ⟨B, 1, none⟩ v) B u v := by
 have hn := h.n
 have hlo := h.lo
 have g := h.g
 have hkk : ∀ k, k < B → ((wr.setCell ⟨B, 0, none⟩ u).setCell ⟨B, 1, none⟩ v).heap[k]? = wr.heap[k]? := fun k hk => (Below.heap_setCell _ _ _ k (fun e => by have e2 : k = B := e; omega)).trans (Below.heap_setCell _ _ _ k (fun e => by have e2 : k = B := e; omega))
 refine ⟨⟨u, v, ⟨C, K⟩, R, rfl, ((h.o.set ⟨B, 0, none⟩ u (by show B < B + 1 + 1; omega)).set ⟨B, 1, none⟩ v (by show B < B + 1 + 1; omega)).lower (by omega), hC, hl, hK, hk, h.d.keep fun k hk => hkk k (by omega), ⟨g.os, g.tape, g.output, by have := g.size; simpa [World.setCell] using this, fun k hk hne => (hkk k (by omega)).trans (g.block k hk hne)⟩⟩, (h.r.set0 u).set1 v⟩
set_option maxRecDepth 100000 in
set_option maxHeartbeats 4000000 in
theorem playDesk_any (Dd : Nat) (R : List Int) (w : World) (h : DiceAt w Dd R) :
  Calls Try.prog 11 #[.pointer (some ⟨Dd, 0, none⟩)] w (DeskPl Dd w) := by
 have HD := Lib.hid h
 clear h
 go_enter Try.func11, Try.ntmps11
 go_wp2_with fail
 refine gen_world fun w1 hw1 => ?_
 have HS0 := Lib.hid (show PlS w w1 Dd w.heap.size R (.slice none 0 0) (.slice none 0 0) ⟨[], []⟩ from by rw [hw1]; exact PlS.start HD.out)
 clear hw1 HD
 generalize hbx : w.heap.size = B at *
 have HBX := Lib.hid hbx
 clear hbx
 go_loopw [4] (fun i wr => ∃ (k : Nat) (R : List Int) (u : Value) (C : List CouD), k ≤ 4 ∧ i = .int .i64 ((k : Int) + 1) ∧ C.length = k ∧ PlC C ∧ PlS w wr Dd B R u (.slice none 0 0) ⟨C, []⟩) (fun i _ => 6 - (intOf i).toNat)
 case atStart => exact ⟨0, R, _, [], Nat.zero_le _, rfl, rfl, fun j hj => absurd hj (by simp), HS0.out⟩
 case round =>
  obtain ⟨k, R1, u, C, hk, rfl, hcl, hpc, hS⟩ := hrel
  have HPC := Lib.hid hpc
  have HCL := Lib.hid hcl
  have HS := Lib.hid hS
  clear hpc hcl hS HS0
  go_wp2_with fail
  refine (next_any Dd R1 5 _ HS.out.d (by omega)).mono ?_
  rintro e w2 ⟨rfl, hd2, hg2⟩
  obtain ⟨m1, m2⟩ := nextV_range R1 5 (by omega)
  replace HS := Lib.hid (HS.out.dice hd2 hg2)
  generalize nextV R1 5 = q at *
  clear hd2 hg2
  by_cases hlt : (k : Int) + 1 ≤ q
  ·
   have k3 : k ≤ 3 := by omega
   go_wp2_with fail
   refine gen_calls fun w3 hw3 => ?_
   have hb3 : Below w2.heap.size w2 w3 := by rw [hw3]; exact below_alloc _ _
   have HL3 := Lib.hid (show ElP ES (fun b => b ≠ Dd) w3 (some ⟨w2.heap.size, 0, none⟩) 3 [bHr, bLegal, bHr] from by rw [hw3]; exact (lit_strs w2 [bHr, bLegal, bHr] 3 rfl (by decide)).mono fun b _ e => by have := HS.out.d.lt; omega)
   replace HS := Lib.hid (HS.out.below hb3)
   clear hw3 hb3
   refine (word_any Dd _ _ [bHr, bLegal, bHr] 3 w3 HS.out.d HL3.out (by decide) (by decide)).mono ?_
   rintro e w4 ⟨rfl, hd4, hg4⟩
   replace HS := Lib.hid (HS.out.dice hd4 hg4)
   have HS4 := Lib.hid HS.out
   have HO := Lib.hid (role_cases R1.tail)
   generalize wordV [bHr, bLegal, bHr] R1.tail = so at *
   clear hd4 hg4 HL3
   go_wp2_with fail
   refine gen_calls fun w5 hw5 => ?_
   have hb5 : Below w4.heap.size w4 w5 := by rw [hw5]; exact below_alloc _ _
   have HCC0 := Lib.hid (show CouB w5 w4.heap.size #[.int .i64 (((k : Int) + 1) * 2), .string so, .slice none 0 0] from by rw [hw5]; exact heap_alloc_new _ _)
   have HN := Lib.hid (show B + 1 + 1 ≤ w4.heap.size from by have := HS.out.x.lt; omega)
   have HG5 := Lib.hid (show w4.grownBy w5 (some Dd) from grown_of_below hb5)
   replace HS := Lib.hid (HS.out.below hb5)
   clear hw5 hb5
   generalize hcb : w4.heap.size = cb at *
   have HCB := Lib.hid hcb
   clear hcb
   refine (one_any Dd _ 3 w5 HS.out.d (by omega) (by omega)).mono ?_
   rintro e w6 ⟨rfl, hd6, hg6⟩
   have HCC := Lib.hid (show CouB w6 cb #[.int .i64 (((k : Int) + 1) * 2), .string so, .slice none 0 0] from (hg6.block cb (blk_ltE HCC0.out) (fun e => by injection e with e; have := HN.out; have := HS.out.lo; omega)).trans HCC0.out)
   replace HS := Lib.hid (HS.out.dice hd6 hg6)
   have HG6 := Lib.hid (grown_trans HG5.out hg6)
   clear hd6 hg6 HCC0 HG5
   cases oneV 3 R1.tail.tail with
   | false =>
    obtain ⟨X, q1, q2⟩ := HS.out.o.cs
    obtain ⟨Cx, cx, rfl, -⟩ := q1.toP
    have HQ1 := Lib.hid q1
    have HQ2 := Lib.hid q2
    have hxl : X.length ≤ 1000 := by have e1 := q2.len; have e2 : C.length = k := HCL.out; have e3 : X.length = C.length := e1; omega
    have d0 := HS.out.x.c0
    have dl := HS.out.x.lt
    have t0 : w6.cell? ⟨cb, 0, none⟩ = some (.int .i64 (((k : Int) + 1) * 2)) := by rw [cell_of_row _ _ 0 _ _ (0, 0) HCC.out]; rfl
    have t1 : w6.cell? ⟨cb, 1, none⟩ = some (.string so) := by rw [cell_of_row _ _ 1 _ _ (0, 0) HCC.out]; rfl
    have t2 : w6.cell? ⟨cb, 2, none⟩ = some (.slice none 0 0) := by rw [cell_of_row _ _ 2 _ _ (0, 0) HCC.out]; rfl
    have tl := blk_ltE HCC.out
    have hle : B + 1 + 1 ≤ w6.heap.size := by omega
    clear q1 q2
    go_wp2_with (first | (at_builtin; refine app_elL EC Try.underlying27 info_cou rfl rfl (.tmp 29) (.tmp 31) rfl (base := B + 1 + 1) (w := w6) (v := .slice Cx X.length cx) (S := X) ⟨((k : Int) + 1) * 2, so, none, 0, 0⟩ rfl rfl HQ1.out w6.heap.size rfl rfl (by omega) (by omega) hle ?_; intro g cap w9 hown9 hg9 hor9; have dc9 := (HS.out.up hg9 (fun b e => (World.ownsRow.lt HQ1.out b e).1) 0 undef).2.2.2.2; have d9 := dc9.c0; have f9 := dc9.fz 0; have l9 := dc9.lt; have HO9 := Lib.hid hown9; have HG9 := Lib.hid hg9; have HR9 := Lib.hid (show (Value.slice Cx X.length cx).ownBlock = some g ∨ w6.heap.size ≤ g from hor9.imp id (by omega)); clear hown9 hg9 hor9 dc9 d0 dl) | fail)
    go_roundw
    case rel => exact ⟨k + 1, _, _, C ++ [⟨((k : Int) + 1) * 2, so, []⟩], by omega, by go_num, by simp; exact HCL.out, HPC.out.snoc ⟨by rw [HCL.out]; show ((k : Int) + 1) * 2 = _; omega, HO.out, .inl rfl⟩, HS.out.more HQ1.out HQ2.out ⟨rfl, rfl, rfl, ElP.nil _ _ _⟩ HO9.out HG9.out HR9.out⟩
    case measure => simp [intOf]; omega
   | true =>
    go_wp2_with fail
    refine gen_calls fun w7 hw7 => ?_
    have hb7 : Below w6.heap.size w6 w7 := by rw [hw7]; exact below_alloc _ _
    have HL7 := Lib.hid (show ElP ES (fun b => b ≠ Dd) w7 (some ⟨w6.heap.size, 0, none⟩) 2 [bAnn, bBob] from by rw [hw7]; exact (lit_strs w6 [bAnn, bBob] 2 rfl (by decide)).mono fun b _ e => by have := HS.out.d.lt; omega)
    replace HS := Lib.hid (HS.out.below hb7)
    replace HCC := Lib.hid (HCC.out.below hb7)
    have HG7 := Lib.hid (grown_trans HG6.out (grown_of_below hb7))
    clear hw7 hb7 HG6
    refine (word_any Dd _ _ [bAnn, bBob] 2 w7 HS.out.d HL7.out (by decide) (by decide)).mono ?_
    rintro e w8 ⟨rfl, hd8, hg8⟩
    replace HCC := Lib.hid (show CouB w8 cb #[.int .i64 (((k : Int) + 1) * 2), .string so, .slice none 0 0] from (hg8.block cb (blk_ltE HCC.out) (fun e => by injection e with e; have := HN.out; have := HS.out.lo; omega)).trans HCC.out)
    replace HS := Lib.hid (HS.out.dice hd8 hg8)
    have HW := Lib.hid (who_cases R1.tail.tail.tail)
    generalize wordV [bAnn, bBob] R1.tail.tail.tail = sw at *
    have HG8 := Lib.hid (grown_trans HG7.out hg8)
    clear hd8 hg8 HL7 HG7
    obtain ⟨X, q1, q2⟩ := HS.out.o.cs
    obtain ⟨Cx, cx, rfl, -⟩ := q1.toP
    have hxl : X.length ≤ 1000 := by have e1 := q2.len; have e2 : C.length = k := HCL.out; have e3 : X.length = C.length := e1; omega
    have d0 := HS.out.x.c0
    have dl := HS.out.x.lt
    have t0 : w8.cell? ⟨cb, 0, none⟩ = some (.int .i64 (((k : Int) + 1) * 2)) := by rw [cell_of_row _ _ 0 _ _ (0, 0) HCC.out]; rfl
    have t1 : w8.cell? ⟨cb, 1, none⟩ = some (.string so) := by rw [cell_of_row _ _ 1 _ _ (0, 0) HCC.out]; rfl
    have t2 : w8.cell? ⟨cb, 2, none⟩ = some (.slice none 0 0) := by rw [cell_of_row _ _ 2 _ _ (0, 0) HCC.out]; rfl
    have tf : w8.frozen? ⟨cb, 2, none⟩ = false := by have h := HCC.out; unfold CouB at h; simp [World.frozen?, h]
    have tl := blk_ltE HCC.out
    have lo' : ¬ B + 1 = cb := by have := HN.out; omega
    clear q1 q2
    obtain ⟨hs9, hz9, hl9⟩ := pl_store HS4.out HG8.out HS.out.d HCB.out tl sw (.slice (some ⟨w8.heap.size, 0, none⟩) 1 1)
    obtain ⟨Y, q1, q2⟩ := hs9.o.cs
    have hyl : Y.length = X.length := by have e1 := q1.toP; obtain ⟨A', c', e2, -⟩ := e1; injection e2 with e2 e3 e4; exact e3.symm
    have hyl2 : Y.length ≤ 1000 := by omega
    clear hyl
    have HQ1 := Lib.hid q1
    have HQ2 := Lib.hid q2
    have HS9 := Lib.hid hs9
    have HZ9 := Lib.hid hz9
    have HL9 := Lib.hid hl9
    have hle : B + 1 + 1 ≤ w8.heap.size + 1 := by omega
    clear q1 q2 hs9 hz9 hl9
    go_wp2_with (first | (at_builtin; refine app_elL EC Try.underlying27 info_cou rfl rfl (.tmp 29) (.tmp 31) rfl (base := B + 1 + 1) (w := ((w8.setCell ⟨cb, 2, none⟩ (.slice (some ⟨w8.heap.size, 0, none⟩) 1 1)).alloc (.cells #[.string sw] 9))) (v := .slice Cx X.length cx) (S := Y) ⟨((k : Int) + 1) * 2, so, some ⟨w8.heap.size, 0, none⟩, 1, 1⟩ rfl rfl HQ1.out (w8.heap.size + 1) HZ9.out rfl (by omega) (by omega) (by rw [HZ9.out]; exact hle) ?_; intro g cap w9 hown9 hg9 hor9; have dc9 := (HS9.out.up hg9 (fun b e => (World.ownsRow.lt HQ1.out b e).1) 0 undef).2.2.2.2; have d9 := dc9.c0; have f9 := dc9.fz 0; have l9 := dc9.lt; have HO9 := Lib.hid hown9; have HG9 := Lib.hid hg9; have HR9 := Lib.hid (show (Value.slice Cx X.length cx).ownBlock = some g ∨ (((w8.setCell ⟨cb, 2, none⟩ (.slice (some ⟨w8.heap.size, 0, none⟩) 1 1)).alloc (.cells #[.string sw] 9)) : World).heap.size ≤ g from hor9.imp id (by rw [HZ9.out]; omega)); clear hown9 hg9 hor9 dc9 d0 dl) | fail)
    go_roundw
    case rel => exact ⟨k + 1, _, _, C ++ [⟨((k : Int) + 1) * 2, so, [sw]⟩], by omega, by go_num, by simp; exact HCL.out, HPC.out.snoc ⟨by rw [HCL.out]; show ((k : Int) + 1) * 2 = _; omega, HO.out, .inr (HW.out.imp (by rintro rfl; rfl) (by rintro rfl; rfl))⟩, HS9.out.more (x := ⟨((k : Int) + 1) * 2, so, some ⟨w8.heap.size, 0, none⟩, 1, 1⟩) (d := ⟨((k : Int) + 1) * 2, so, [sw]⟩) HQ1.out HQ2.out ⟨rfl, rfl, rfl, HL9.out⟩ HO9.out HG9.out HR9.out⟩
    case measure => simp [intOf]; omega
  ·
   have C4 : C.length ≤ 4 := by have := HCL.out; omega
   go_wp2_with fail
   clear m1 m2 hlt
   refine (next_any Dd _ 7 _ HS.out.d (by omega)).mono ?_
   rintro e w3 ⟨rfl, hd3, hg3⟩
   obtain ⟨p1, p2⟩ := nextV_range R1.tail 7 (by omega)
   replace HS := Lib.hid (HS.out.dice hd3 hg3)
   generalize nextV R1.tail 7 = qn at *
   obtain ⟨n0, rfl⟩ := Int.eq_ofNat_of_zero_le p1
   have n6 : n0 ≤ 6 := by omega
   obtain ⟨uA, uc, vB, vb, eu, -⟩ := HS.out.o.forms
   have eu : u = .slice uA C.length uc := eu
   subst eu
   clear hd3 hg3 p1 p2
   go_wp2_with fail
   go_loopw [6, 7] (fun t i wr => ∃ (tm k : Nat) (R : List Int) (v : Value) (K : List CaseD), t = .int .i64 tm ∧ i = .int .i64 k ∧ k ≤ 6 ∧ tm + 2 * k ≤ 12 ∧ K.length + k ≤ 6 ∧ PlK K ∧ PlS w wr Dd B R (.slice uA C.length uc) v ⟨C, K⟩) (fun _ i _ => (intOf i).toNat)
   case atStart => exact ⟨0, n0, _, _, [], rfl, rfl, n6, by omega, by simp; omega, fun x hx => (by cases hx), HS.out⟩
   case round =>
    clear HS
    obtain ⟨tm, k, R2, v, K, rfl, rfl, hk6, htm, hkl, hpk, hS⟩ := hrel
    obtain ⟨uA2, uc2, vA, vc, -, ev⟩ := hS.o.forms
    have ev : v = .slice vA K.length vc := ev
    subst ev
    have HS := Lib.hid hS
    have HPK := Lib.hid hpk
    have d0 := hS.x.c0
    have d1 := hS.x.c1
    have dl := hS.x.lt
    clear hS hpk
    by_cases hk0 : 0 < k
    ·
     have g1 : (0 : Int) < (k : Int) := by omega
     have g1d : decide ((0 : Int) < (k : Int)) = true := decide_eq_true g1
     by_cases hc0 : 0 < C.length
     ·
      have g2 : (0 : Int) < (C.length : Int) := by omega
      have g2d : decide ((0 : Int) < (C.length : Int)) = true := decide_eq_true g2
      go_wp2_with fail
      refine (next_any Dd R2 3 _ HS.out.d (by omega)).mono ?_
      rintro e w3 ⟨rfl, hd3, hg3⟩
      obtain ⟨p1, p2⟩ := nextV_range R2 3 (by omega)
      replace HS := Lib.hid (HS.out.dice hd3 hg3)
      generalize nextV R2 3 = qt at *
      obtain ⟨dt, rfl⟩ := Int.eq_ofNat_of_zero_le p1
      clear hd3 hg3 p1 d0 d1 dl
      generalize R2.tail = Rq at *
      obtain ⟨z1, z2⟩ := nextV_range Rq C.length (by omega)
      obtain ⟨q, hq⟩ : ∃ q : Nat, nextV Rq C.length = q := Int.eq_ofNat_of_zero_le z1
      have hqC : q < C.length := by omega
      obtain ⟨ub, uo, x, rfl, hub, hub2, x0, x1, x2, hx⟩ := HS.out.cou.elem hqC
      obtain ⟨cid, co, xA, xn, xc⟩ := x
      have HCO := Lib.hid (show co.size ≤ 1000 from by have e : co = (cAt C q).o := hx.o; rcases (HPC.out q hqC).o with f | f <;> rw [e, f] <;> decide)
      have q0 : (0 : Int) ≤ (q : Int) := by omega
      have q1 : (q : Int) < (C.length : Int) := by omega
      have HQ := Lib.hid hq
      have HQB := Lib.hid (show (C.length : Int) ≤ 4611686018427387904 by omega)
      have HLT := Lib.hid (show B + 1 < w3.heap.size ∧ B + 1 ≠ Dd from ⟨HS.out.x.lt, by have := HS.out.lo; omega⟩)
      have HUB := Lib.hid (show ub < w3.heap.size ∧ ub ≠ Dd from ⟨hub, by have := HS.out.lo; omega⟩)
      have HDL := Lib.hid (show Dd < w3.heap.size from HS.out.d.lt)
      have HD0 := Lib.hid HS.out.x.c0
      have X0 := Lib.hid x0
      have X1 := Lib.hid x1
      have X2 := Lib.hid x2
      have HKL := Lib.hid (show K.length ≤ 1000 by omega)
      clear hx hq z1 z2 x0 x1 x2 hub hub2 HCL
      go_upto_region 14 with fail
      refine wp_region_J2 (GI (R := fun _ _ => True) [Pr.eq (.pointer (some ⟨B + 1, 0, none⟩)), Pr.eq (.slice (some ⟨ub, uo, none⟩) C.length uc), Pr.eq (.pointer (some ⟨Dd, 0, none⟩)), Pr.eq (.pointer (some ⟨B + 1, 0, none⟩)), Pr.eq (.slice (some ⟨ub, uo, none⟩) C.length uc), Pr.eq (.int .i64 (C.length : Int)), Pr.eq (.int .i64 (q : Int)), Pr.eq (.pointer (some ⟨ub, uo + q * 3, none⟩)), Pr.eq (.agg #[.int .i64 cid, .string co, .slice xA xn xc]), Pr.any, Pr.any] (PcJ w3 Dd Rq #[.int .i64 cid, .string co, .slice xA xn xc])) (by kernel_rfl) (by kernel_rfl) (by kernel_rfl) ?_ ?_ ?_
      case refine_1 => exact fun V => GI.start (PcJ.start HS.out.d _)
      case refine_2 =>
       refine .cons (fun V Ld a W hLi hpre hR hI KK hK => ?_) ?_
       ·
        have o3 := (hR.old 3 (by kernel_rfl)).trans (show _ = Value.pointer (some ⟨B + 1, 0, none⟩) from rfl)
        exact J_fieldAddr rfl _ (.tmp 3) 0 rfl (by rw [o3]; go_simp) (hK _ _ (hI.put0 0 rfl rfl (hI.st.mv _ (by decide))))
       refine .cons (fun V Ld a W hLi hpre hR hI KK hK => ?_) ?_
       ·
        have f0 := hI.ef hR hpre 0 rfl rfl rfl (by kernel_rfl)
        have d0 := (hI.st.cell 0 HLT.out.1 HLT.out.2).trans HD0.out
        exact J_load rfl _ (.tmp 50) rfl (by rw [f0]; go_simp) (hK _ _ (hI.put0 1 rfl rfl (hI.st.mv _ (by decide))))
       refine .cons (fun V Ld a W hLi hpre hR hI KK hK => ?_) ?_
       ·
        have o0 := (hR.old 0 (by kernel_rfl)).trans (show _ = Value.pointer (some ⟨Dd, 0, none⟩) from rfl)
        exact G_move rfl (.tmp 0) rfl o0 (hK _ _ (hI.put0 2 rfl rfl (hI.st.mv _ (by decide))))
       refine .cons (fun V Ld a W hLi hpre hR hI KK hK => ?_) ?_
       ·
        have o3 := (hR.old 3 (by kernel_rfl)).trans (show _ = Value.pointer (some ⟨B + 1, 0, none⟩) from rfl)
        exact J_fieldAddr rfl _ (.tmp 3) 0 rfl (by rw [o3]; go_simp) (hK _ _ (hI.put0 3 rfl rfl (hI.st.mv _ (by decide))))
       refine .cons (fun V Ld a W hLi hpre hR hI KK hK => ?_) ?_
       ·
        have f3 := hI.ef hR hpre 3 rfl rfl rfl (by kernel_rfl)
        have d0 := (hI.st.cell 0 HLT.out.1 HLT.out.2).trans HD0.out
        exact J_load rfl _ (.tmp 53) rfl (by rw [f3]; go_simp) (hK _ _ (hI.put0 4 rfl rfl (hI.st.mv _ (by decide))))
       refine .cons (fun V Ld a W hLi hpre hR hI KK hK => ?_) ?_
       ·
        have f4 := hI.ef hR hpre 4 rfl rfl rfl (by kernel_rfl)
        exact G_len rfl (.tmp 54) _ rfl (by rw [f4]; go_simp) (hK _ _ (hI.put0 5 rfl rfl (hI.st.mv _ (by decide))))
       refine .cons (fun V Ld a W hLi hpre hR hI KK hK => ?_) ?_
       ·
        have f2 := hI.ef hR hpre 2 rfl rfl rfl (by kernel_rfl)
        have f5 := hI.ef hR hpre 5 rfl rfl rfl (by kernel_rfl)
        refine J_call rfl _ _ _ rfl enter_nxt (by simp only [List.map_toArray, List.map_cons, List.map_nil, f2, f5]) (next_any Dd Rq C.length W (hI.st.d0 hLi) HQB.out) ?_
        rintro e w' ⟨rfl, hd, hg⟩
        exact ⟨_, rfl, hK _ _ (hI.put trivial 6 rfl (congrArg (Value.int .i64) HQ.out) (hI.st.nx hLi HDL.out hd hg))⟩
       refine .cons (fun V Ld a W hLi hpre hR hI KK hK => ?_) ?_
       ·
        have f1 := hI.ef hR hpre 1 rfl rfl rfl (by kernel_rfl)
        have f6 := hI.ef hR hpre 6 rfl rfl rfl (by kernel_rfl)
        exact J_indexAddr rfl _ (.tmp 51) (.tmp 56) rfl (by rw [f1, f6]; go_simp <;> (intro h; omega)) (hK _ _ (hI.put0 7 rfl rfl (hI.st.mv _ (by decide))))
       refine .cons (fun V Ld a W hLi hpre hR hI KK hK => ?_) ?_
       ·
        have f7 := hI.ef hR hpre 7 rfl rfl rfl (by kernel_rfl)
        have x0 := (hI.st.cell (uo + q * 3) HUB.out.1 HUB.out.2).trans X0.out
        have x1 := (hI.st.cell (uo + q * 3 + 1) HUB.out.1 HUB.out.2).trans X1.out
        have x2 := (hI.st.cell (uo + q * 3 + 2) HUB.out.1 HUB.out.2).trans X2.out
        exact J_load rfl _ (.tmp 57) rfl (by rw [f7]; go_simp) (hK _ _ (hI.put0 8 rfl rfl (hI.st.mv _ (by decide))))
       refine .cons (fun V Ld a W hLi hpre hR hI KK hK => ?_) ?_
       ·
        exact J_alloc rfl _ rfl (al_cou W) (hK _ _ (hI.put trivial 9 rfl trivial (hI.st.oa hLi)))
       refine .cons (fun V Ld a W hLi hpre hR hI KK hK => ?_) trivial
       ·
        have p9 := pm hpre 9 (by kernel_rfl)
        have f8 := hI.ef hR hpre 8 rfl rfl rfl (by kernel_rfl)
        obtain ⟨nb, e9, hc, hn⟩ := hI.st.os p9 hLi HDL.out
        obtain ⟨w', t1, t2, t3, t4, t5⟩ := st_cou hc cid co xA xn xc
        exact J_store rfl _ (.tmp 8) (.tmp 58) rfl (by rw [hR.ev 9 rfl rfl p9, f8, e9]; exact t1) (hK _ _ (hI.put trivial 10 rfl trivial (hn w' _ t2 t5)))
      case refine_3 =>
       intro V Ld w9 hLd hI
       have hg9 := hI.st.g
       have hd9 := hI.st.d1 (hLd 6 (by decide))
       obtain ⟨nb, e9, hnb, hcb⟩ := hI.st.a1 (hLd 10 (by decide))
       clear hI hLd
       simp only [finL, putL, Act.put, Nat.reduceAdd]
       rw [e9]
       clear e9
       generalize V 0 = v0, V 1 = v1
       generalize V 2 = v2, V 3 = v3
       generalize V 4 = v4, V 5 = v5
       generalize V 6 = v6, V 7 = v7, V 8 = v8
       clear V
       simp only [List.setIfInBounds_toArray, List.set_cons_succ, List.set_cons_zero]
       have HNB := Lib.hid (show nb ≠ Dd from by have := HDL.out; omega)
       have HCB := Lib.hid hcb
       replace HS := Lib.hid (HS.out.dice hd9 hg9)
       clear hd9 hg9 hcb hnb HD0 HLT HUB X0 X1 X2
       have hc9 := HCB.out
       generalize hw10 : w9 = w10 at *
       clear hw10
       go_upto_region 15 with fail
       refine wp_region_J2 (GI (R := fun _ _ => True) [Pr.eq (.pointer (some ⟨B + 1, 1, none⟩)), Pr.eq (.slice vA K.length vc), Pr.eq (.pointer (some ⟨nb, 0, none⟩)), Pr.eq (.int .i64 cid), Pr.eq (.pointer (some ⟨Dd, 0, none⟩)), Pr.any, strPr, Pr.eq (.pointer (some ⟨nb, 1, none⟩)), Pr.eq (.string co), Pr.eq (.int .i64 ((tm : Int) + (dt : Int))), Pr.eq (.pointer (some ⟨Dd, 0, none⟩)), blnPr, casPr, Pr.any, Pr.any, Pr.eq (.pointer (some ⟨B + 1, 1, none⟩)), Pr.any] (PkJ w Dd B nb #[.int .i64 cid, .string co, .slice xA xn xc] (.slice (some ⟨ub, uo, none⟩) C.length uc) (.slice vA K.length vc) C K)) (by kernel_rfl) (by kernel_rfl) (by kernel_rfl) ?_ ?_ ?_
       case refine_1 => exact fun V => GI.start (PkJ.start HS.out hc9 _)
       case refine_2 =>
        refine .cons (fun V Ld a W hLi hpre hR hI KK hK => ?_) ?_
        ·
         have o3 := (hR.old 3 (by kernel_rfl)).trans (show _ = Value.pointer (some ⟨B + 1, 0, none⟩) from rfl)
         exact J_fieldAddr rfl _ (.tmp 3) 1 rfl (by rw [o3]; go_simp) (hK _ _ (hI.put0 0 rfl rfl (hI.st.mv _ (by decide))))
        refine .cons (fun V Ld a W hLi hpre hR hI KK hK => ?_) ?_
        ·
         have f0 := hI.ef hR hpre 0 rfl rfl rfl (by kernel_rfl)
         obtain ⟨⟨R2, hp1⟩, -⟩ := hI.st.p (hI.st.e14 (.inl rfl) hLi)
         have c1 := hp1.x.c1
         exact J_load rfl _ (.tmp 59) rfl (by rw [f0]; go_simp) (hK _ _ (hI.put0 1 rfl rfl (hI.st.mv _ (by decide))))
        refine .cons (fun V Ld a W hLi hpre hR hI KK hK => ?_) ?_
        ·
         have o8 := (hR.old 8 (by kernel_rfl)).trans (show _ = Value.pointer (some ⟨nb, 0, none⟩) from rfl)
         exact J_fieldAddr rfl _ (.tmp 8) 0 rfl (by rw [o8]; go_simp) (hK _ _ (hI.put0 2 rfl rfl (hI.st.mv _ (by decide))))
        refine .cons (fun V Ld a W hLi hpre hR hI KK hK => ?_) ?_
        ·
         have f2 := hI.ef hR hpre 2 rfl rfl rfl (by kernel_rfl)
         obtain ⟨-, hc3⟩ := hI.st.p (hI.st.e14 (.inr (.inl rfl)) hLi)
         have x0 : W.cell? ⟨nb, 0, none⟩ = some (.int .i64 cid) := by rw [cell_of_row _ _ 0 _ _ (0, 0) hc3]; rfl
         exact J_load rfl _ (.tmp 61) rfl (by rw [f2]; go_simp) (hK _ _ (hI.put0 3 rfl rfl (hI.st.mv _ (by decide))))
        refine .cons (fun V Ld a W hLi hpre hR hI KK hK => ?_) ?_
        ·
         have o0 := (hR.old 0 (by kernel_rfl)).trans (show _ = Value.pointer (some ⟨Dd, 0, none⟩) from rfl)
         exact G_move rfl (.tmp 0) rfl o0 (hK _ _ (hI.put0 4 rfl rfl (hI.st.mv _ (by decide))))
        refine .cons (fun V Ld a W hLi hpre hR hI KK hK => ?_) ?_
        ·
         have n14 := ((hI.st.no (.inl rfl) hLi).2 (by decide)).1
         obtain ⟨⟨R2, hp1⟩, -⟩ := hI.st.p n14
         have hlt := hp1.d.lt
         exact J_buildSlice rfl _ 3 _ rfl (by simp only [List.map_toArray, List.map_cons, List.map_nil]; exact bs_abc W) (hK _ _ (hI.put trivial 5 rfl trivial (hI.st.tn 5 (.inl rfl) (fun e => absurd e (by decide)) hLi HNB.out (fun R h => ⟨R, h.below (below_alloc _ _)⟩) (Kpt.below (below_alloc _ _)) (fun _ => ⟨_, _, rfl, (lit_strs W [bAnn, bBob, bCid] 3 rfl (by decide)).mono fun b _ e => by omega⟩))))
        refine .cons (fun V Ld a W hLi hpre hR hI KK hK => ?_) ?_
        ·
         have f4 := hI.ef hR hpre 4 rfl rfl rfl (by kernel_rfl)
         have p5 := pm hpre 5 (by kernel_rfl)
         have n14 := ((hI.st.no (.inr (.inl rfl)) hLi).2 (by decide)).1
         obtain ⟨⟨R2, hp1⟩, -⟩ := hI.st.p n14
         obtain ⟨A5, c5, e5, h5⟩ := hI.st.p5 p5 n14
         refine J_call rfl _ _ _ rfl enter_word (by simp only [List.map_toArray, List.map_cons, List.map_nil, f4, hR.ev 5 rfl rfl p5, e5]; rfl) (word_any Dd R2 A5 [bAnn, bBob, bCid] c5 W hp1.d h5 (by decide) (by decide)) ?_
         rintro e w' ⟨rfl, hd, hg⟩
         exact ⟨_, rfl, hK _ _ (hI.put trivial 6 rfl ⟨_, rfl, abc_small _⟩ (hI.st.tn 6 (.inr (.inl rfl)) (fun _ => p5) hLi HNB.out (fun R h => ⟨_, h.dice hd hg⟩) (Kpt.grown hg (fun b hb e => hb (by injection e with e; exact e.symm))) (fun e => absurd e (by decide))))⟩
        refine .cons (fun V Ld a W hLi hpre hR hI KK hK => ?_) ?_
        ·
         have o8 := (hR.old 8 (by kernel_rfl)).trans (show _ = Value.pointer (some ⟨nb, 0, none⟩) from rfl)
         exact J_fieldAddr rfl _ (.tmp 8) 1 rfl (by rw [o8]; go_simp) (hK _ _ (hI.put0 7 rfl rfl (hI.st.mv _ (by decide))))
        refine .cons (fun V Ld a W hLi hpre hR hI KK hK => ?_) ?_
        ·
         have f7 := hI.ef hR hpre 7 rfl rfl rfl (by kernel_rfl)
         obtain ⟨-, hc3⟩ := hI.st.p (hI.st.e14 (.inr (.inr rfl)) hLi)
         have x1 : W.cell? ⟨nb, 1, none⟩ = some (.string co) := by rw [cell_of_row _ _ 1 _ _ (0, 0) hc3]; rfl
         exact J_load rfl _ (.tmp 66) rfl (by rw [f7]; go_simp) (hK _ _ (hI.put0 8 rfl rfl (hI.st.mv _ (by decide))))
        refine .cons (fun V Ld a W hLi hpre hR hI KK hK => ?_) ?_
        ·
         have o6 := (hR.old 6 (by kernel_rfl)).trans (show _ = Value.int .i64 ((tm : Int) + (dt : Int)) from rfl)
         exact G_move rfl (.tmp 6) rfl o6 (hK _ _ (hI.put0 9 rfl rfl (hI.st.mv _ (by decide))))
        refine .cons (fun V Ld a W hLi hpre hR hI KK hK => ?_) ?_
        ·
         have o0 := (hR.old 0 (by kernel_rfl)).trans (show _ = Value.pointer (some ⟨Dd, 0, none⟩) from rfl)
         exact G_move rfl (.tmp 0) rfl o0 (hK _ _ (hI.put0 10 rfl rfl (hI.st.mv _ (by decide))))
        refine .cons (fun V Ld a W hLi hpre hR hI KK hK => ?_) ?_
        ·
         have f10 := hI.ef hR hpre 10 rfl rfl rfl (by kernel_rfl)
         have n14 := ((hI.st.no (.inr (.inr (.inl rfl))) hLi).2 (by decide)).1
         obtain ⟨⟨R2, hp1⟩, -⟩ := hI.st.p n14
         refine J_call rfl _ _ _ rfl enter_one (by simp only [List.map_toArray, List.map_cons, List.map_nil, f10]; rfl) (one_any Dd R2 3 W hp1.d (by decide) (by decide)) ?_
         rintro e w' ⟨rfl, hd, hg⟩
         exact ⟨_, rfl, hK _ _ (hI.put trivial 11 rfl ⟨_, rfl⟩ (hI.st.tn 11 (.inr (.inr rfl)) (fun e => absurd e (by decide)) hLi HNB.out (fun R h => ⟨_, h.dice hd hg⟩) (Kpt.grown hg (fun b hb e => hb (by injection e with e; exact e.symm))) (fun e => absurd e (by decide))))⟩
        refine .cons (fun V Ld a W hLi hpre hR hI KK hK => ?_) ?_
        ·
         have p3 := pm hpre 3 (by kernel_rfl)
         have f3 := hI.ef hR hpre 3 rfl rfl rfl (by kernel_rfl)
         have p6 := pm hpre 6 (by kernel_rfl)
         obtain ⟨s6, e6, h6⟩ := hI.val 6 _ rfl p6
         have f6 := (hR.ev 6 rfl rfl p6).trans e6
         have p8 := pm hpre 8 (by kernel_rfl)
         have f8 := hI.ef hR hpre 8 rfl rfl rfl (by kernel_rfl)
         have f9 := hI.ef hR hpre 9 rfl rfl rfl (by kernel_rfl)
         have p11 := pm hpre 11 (by kernel_rfl)
         obtain ⟨b11, e11⟩ := hI.val 11 _ rfl p11
         have f11 := (hR.ev 11 rfl rfl p11).trans e11
         exact J_build rfl _ _ rfl (by simp only [List.map_toArray, List.map_cons, List.map_nil, f3, f6, f8, f9, f11]; exact bd_case W cid s6 co ((tm : Int) + (dt : Int)) b11) (hK _ _ (hI.put trivial 12 rfl ⟨⟨cid, s6, co, (tm : Int) + (dt : Int), b11⟩, rfl, h6, HCO.out⟩ (hI.st.o12 p6 p11 p3 p8 hLi)))
        refine .cons (fun V Ld a W hLi hpre hR hI KK hK => ?_) ?_
        ·
         have p12 := pm hpre 12 (by kernel_rfl)
         obtain ⟨x12, e12, h12⟩ := hI.val 12 _ rfl p12
         have f12 := (hR.ev 12 rfl rfl p12).trans e12
         exact J_buildSlice rfl _ 1 _ rfl (by simp only [List.map_toArray, List.map_cons, List.map_nil, f12]; exact bs_case W x12) (hK _ _ (hI.put trivial 13 rfl trivial (hI.st.o13 p12 hLi h12)))
        refine .cons (fun V Ld a W hLi hpre hR hI KK hK => ?_) ?_
        ·
         have p1 := pm hpre 1 (by kernel_rfl)
         have f1 := hI.ef hR hpre 1 rfl rfl rfl (by kernel_rfl)
         have p13 := pm hpre 13 (by kernel_rfl)
         obtain ⟨y, v', W', e13, hr, hn⟩ := hI.st.o14 p13 p1 hLi HKL.out
         exact G_bapp rfl (.tmp 60) (.tmp 72) _ rfl (by rw [f1, hR.ev 13 rfl rfl p13, e13]; exact hr) (hK _ _ (hI.put trivial 14 rfl trivial hn))
        refine .cons (fun V Ld a W hLi hpre hR hI KK hK => ?_) ?_
        ·
         have o3 := (hR.old 3 (by kernel_rfl)).trans (show _ = Value.pointer (some ⟨B + 1, 0, none⟩) from rfl)
         exact J_fieldAddr rfl _ (.tmp 3) 1 rfl (by rw [o3]; go_simp) (hK _ _ (hI.put0 15 rfl rfl (hI.st.mv _ (by decide))))
        refine .cons (fun V Ld a W hLi hpre hR hI KK hK => ?_) trivial
        ·
         have f15 := hI.ef hR hpre 15 rfl rfl rfl (by kernel_rfl)
         have p14 := pm hpre 14 (by kernel_rfl)
         obtain ⟨g, n, cap, e14, hd, hn⟩ := hI.st.o16 p14 hLi
         exact J_store rfl _ (.tmp 74) (.tmp 73) rfl (by rw [f15, hR.ev 14 rfl rfl p14, e14]; exact st_ks hd _ _ _) (hK _ _ (hI.put trivial 16 rfl trivial (hn _)))
       case refine_3 =>
        intro V Ld w11 hLd hI
        obtain ⟨R9, x9, hx9, hp9⟩ := hI.st.p16 (hLd 16 (by decide))
        clear hI hLd
        simp only [finL, putL, Act.put, Nat.reduceAdd]
        generalize V 0 = v0, V 1 = v1
        generalize V 2 = v2, V 3 = v3
        generalize V 4 = v4, V 5 = v5
        generalize V 6 = v6, V 7 = v7
        generalize V 8 = v8, V 9 = v9
        generalize V 10 = v10, V 11 = v11
        generalize V 12 = v12, V 13 = v13
        generalize V 14 = v14 at hp9 ⊢
        generalize V 15 = v15
        clear V
        simp only [List.setIfInBounds_toArray, List.set_cons_succ, List.set_cons_zero]
        clear hc9
        have HPK9 := Lib.hid (show PlK (K ++ [x9]) from fun y hy => by
         rcases List.mem_append.1 hy with h | h
         ·
          exact HPK.out y h
         ·
          rw [List.mem_singleton] at h; subst h; exact hx9)
        have HS9 := Lib.hid hp9
        clear hp9 hx9
        go_wp2_with fail
        go_roundw
        case rel => exact ⟨tm + dt, k - 1, R9, _, K ++ [x9], by go_num, by go_num, by omega, by omega, by simp; omega, HPK9.out, HS9.out⟩
        case measure => simp [intOf]; omega
     ·
      have g2 : ¬ (0 : Int) < (C.length : Int) := by omega
      have g2d : decide ((0 : Int) < (C.length : Int)) = false := decide_eq_false g2
      have HE := Lib.hid (HS.out.fin HPC.out C4 HPK.out (by omega))
      have r0 := HS.out.r.c0
      have r1 := HS.out.r.c1
      have rf0 := HS.out.r.fz 0
      have rf1 := HS.out.r.fz 1
      have rl := HS.out.r.lt
      go_wp2_with fail
      exact bodyPost_ret (results_desk rfl _ _ B rfl HE.out.2) rfl HE.out.1
    ·
     have g1 : ¬ (0 : Int) < (k : Int) := by omega
     have g1d : decide ((0 : Int) < (k : Int)) = false := decide_eq_false g1
     have HE := Lib.hid (HS.out.fin HPC.out C4 HPK.out (by omega))
     have r0 := HS.out.r.c0
     have r1 := HS.out.r.c1
     have rf0 := HS.out.r.fz 0
     have rf1 := HS.out.r.fz 1
     have rl := HS.out.r.lt
     go_wp2_with fail
     exact bodyPost_ret (results_desk rfl _ _ B rfl HE.out.2) rfl HE.out.1
end Go.Proofs.Ytjckpammcgeloaa
namespace Go.Proofs.Ytjckpammcgeloaa
open Go.RowKit

/-- Dice, and a desk in a variable; what it refers to lies elsewhere. -/
structure LwS (w W : World) (Dd n4 : Nat) (R : List Int) (u v : Value) (D : DeskD) : Prop where
  b : Below w.heap.size w W
  lo : w.heap.size ≤ Dd
  lt : Dd < n4
  d : DiceAt W Dd R
  x : DeskCell W n4 u v
  o : DeskR (fun b => b ≠ n4 ∧ b ≠ Dd) W (.agg #[u, v]) D
section
variable {w W W' : World} {Dd n4 : Nat} {R R' : List Int} {u v : Value} {D D' : DeskD}
theorem LwS.below (h : LwS w W Dd n4 R u v D) (hb : Below W.heap.size W W') : LwS w W' Dd n4 R u v D := ⟨below_trans h.b hb, h.lo, h.lt, h.d.below hb, h.x.below hb, h.o.below hb⟩
theorem LwS.dice (h : LwS w W Dd n4 R u v D) (hd : DiceAt W' Dd R') (hg : W.grownBy W' (some Dd)) : LwS w W' Dd n4 R' u v D := by
  have hl := h.lt
  exact ⟨h.b.trans (grown_below hg h.lo h.b.size), h.lo, h.lt, hd, h.x.keep (hg.block _ h.x.lt (fun e => by injection e with e; omega)), h.o.keep (Kpt.grown hg (fun b hb e => hb.2 (by injection e with e; exact e.symm)))⟩
theorem LwS.start {w1 w2 : World} (hb : Below w.heap.size w w1) (h0 : w.heap.size ≤ Dd) (hl : Dd < w1.heap.size) (ho : DeskO w2 w1.heap.size u v D) (hd : DiceAt w2 Dd R) (hg : w1.grownBy w2 (some Dd)) : LwS w (w2.alloc (.cells #[u, v] 30)) Dd w2.heap.size R u v D := by
  have ha := below_alloc w2 (.cells #[u, v] 30)
  have hs := hg.size
  exact ⟨below_trans (hb.trans (grown_below hg h0 hb.size)) ha, h0, by omega, hd.below ha, DeskCell.new _ _ rfl, (ho.read.mono (Q := fun b => b ≠ w2.heap.size ∧ b ≠ Dd) fun b hb hq => by omega).below ha⟩
theorem LwS.store {base : Nat} {A' B' : Option Addr} {ca' cb' : Nat} (h : LwS w W Dd n4 R u v D) (ho : DeskO W base (.slice A' D'.cs.length ca') (.slice B' D'.ks.length cb') D') (hl : n4 < base) :
    LwS w ((W.setCell ⟨n4, 0, none⟩ (.slice A' D'.cs.length ca')).setCell ⟨n4, 1, none⟩ (.slice B' D'.ks.length cb')) Dd n4 R (.slice A' D'.cs.length ca') (.slice B' D'.ks.length cb') D' := by
  have h1 := h.lt
  have h2 := h.lo
  have hk : ∀ k, k ≠ n4 → ((W.setCell ⟨n4, 0, none⟩ (.slice A' D'.cs.length ca')).setCell ⟨n4, 1, none⟩ (.slice B' D'.ks.length cb')).heap[k]? = W.heap[k]? := fun k hk => (Below.heap_setCell _ _ _ k hk).trans (Below.heap_setCell _ _ _ k hk)
  refine ⟨below_set (below_set h.b ⟨n4, 0, none⟩ _ (by show w.heap.size ≤ n4; omega)) ⟨n4, 1, none⟩ _ (by show w.heap.size ≤ n4; omega), h2, h1, h.d.keep fun k hk2 => hk k (by omega), (h.x.set0 _).set1 _, ?_⟩
  exact ((ho.read.mono (Q := fun b => b ≠ n4 ∧ b ≠ Dd) fun b _ hb => by omega).keep (Kpt.set _ _ _ fun b hb => hb.1)).keep (Kpt.set _ _ _ fun b hb => hb.1)
theorem LwS.forms (h : LwS w W Dd n4 R u v D) : ∃ A ca B cb, u = .slice A D.cs.length ca ∧ v = .slice B D.ks.length cb := by
  obtain ⟨A, ca, B, cb, e, -⟩ := h.o
  injection e with e
  simp only [Array.mk.injEq, List.cons.injEq, and_true] at e
  exact ⟨A, ca, B, cb, e.1, e.2⟩
end
/-! ### A throw in a region that draws its order -/
structure NxS (W0 : World) (Dd : Nat) (R : List Int) (c : Nat) (_ : Nat → Value) (L : Nat → Bool) (w : World) : Prop where
  g : W0.grownBy w (some Dd)
  d0 : L c = false → DiceAt w Dd R
  d1 : L c = true → DiceAt w Dd R.tail
section
variable {W0 w w' : World} {Dd c : Nat} {R : List Int} {V : Nat → Value} {L : Nat → Bool}
theorem NxS.start (hd : DiceAt W0 Dd R) (V : Nat → Value) : NxS W0 Dd R c V (fun _ => false) W0.drew := ⟨grown_of_below (Below.drew (Below.refl _ _)), fun _ => hd.below (Below.drew (Below.refl _ _)), fun e => (by cases e)⟩
theorem NxS.mv (h : NxS W0 Dd R c V L w) (i : Nat) (hi : c ≠ i) {V' : Nat → Value} : NxS W0 Dd R c V' (upd L i) w := ⟨h.g, by rw [upd_other _ hi]; exact h.d0, by rw [upd_other _ hi]; exact h.d1⟩
theorem NxS.nx (h : NxS W0 Dd R c V L w) (hd : DiceAt w' Dd R.tail) (hg : w.grownBy w' (some Dd)) {V' : Nat → Value} : NxS W0 Dd R c V' (upd L c) w' := ⟨grown_trans h.g hg, fun e => (by rw [upd_same] at e; cases e), fun _ => hd⟩
theorem NxS.cell (h : NxS W0 Dd R c V L w) {b : Nat} (o : Nat) (hb : b < W0.heap.size) (hne : b ≠ Dd) : w.cell? ⟨b, o, none⟩ = W0.cell? ⟨b, o, none⟩ := World.cell?_of_block (w := W0) (h.g.block b hb (fun e => by injection e with e; exact hne e))
end
theorem DeskR.cou {P : Nat → Prop} {w : World} {A B : Option Addr} {ca n cb : Nat} {C : List CouD} {K : List CaseD} (h : DeskR P w (.agg #[.slice A C.length ca, .slice B n cb]) ⟨C, K⟩) : CousP P w A ca C ∧ ElP EK P w B cb K := by
  obtain ⟨A', ca', B', cb', e, h1, h2⟩ := h
  injection e with e
  simp only [Array.mk.injEq, List.cons.injEq, and_true, Value.slice.injEq] at e
  obtain ⟨⟨rfl, -, rfl⟩, ⟨rfl, -, rfl⟩⟩ := e
  exact ⟨h1, h2⟩
theorem unS_take {K : List CaseD} {k : Nat} (h : k < K.length) : unS (K.take (k + 1)) = unS (K.take k) + (if (kAt K k).s = true then 0 else 1) := by
  unfold unS
  rw [take_k h, List.countP_append, List.countP_singleton]
  cases (kAt K k).s <;> rfl
theorem unS_all (K : List CaseD) : unS (K.take K.length) = unS K := by rw [List.take_length]
theorem unS_le (K : List CaseD) : unS K ≤ K.length := List.countP_le_length
theorem leaveD_no {D : DeskD} {id : Int} (h : leaveE D id ≠ 0) : leaveD D id = D := by unfold leaveD; rw [if_neg h]
end Go.Proofs.Ytjckpammcgeloaa
namespace Go.Proofs.Ytjckpammcgeloaa
open Go.RowKit

def AwP (W0 : World) (la : Bool) (va : Value) (lk : Bool) (vk : Value) (b : Nat) : Prop := W0.heap.size ≤ b ∧ (la = true → va ≠ .pointer (some ⟨b, 0, none⟩)) ∧ (lk = true → vk ≠ .pointer (some ⟨b, 0, none⟩))
theorem ptr_inj {a b : Nat} (h : (Value.pointer (some ⟨a, 0, none⟩)) = .pointer (some ⟨b, 0, none⟩)) : a = b := by
  injection h with h; injection h with h; injection h
theorem al_case (w : World) : (Instr.alloc 37 true (.tuple #[])).run Try.prog w = .ok (.pointer (some ⟨w.heap.size, 0, none⟩)) (w.alloc (.cells #[.int .i64 0, .string ⟨#[]⟩, .string ⟨#[]⟩, .int .i64 0, .bool false] 37)) := by
  go_simp
set_option maxHeartbeats 1000000 in
theorem st_case {w : World} {x : Nat} {y : CaseD} (h : CaseC w x y) (d : CaseD) : ∃ w', (Instr.storeAt 37 (.pointer (some ⟨x, 0, none⟩)) (caseV d)).run Try.prog w = .ok () w' ∧ w.grownBy w' (some x) ∧ w'.heap.size = w.heap.size := by
  have h0 := h.c0
  have h1 := h.c1
  have h2 := h.c2
  have h3 := h.c3
  have h4 := h.c4
  have f0 := h.fz 0
  have f1 := h.fz 1
  have f2 := h.fz 2
  have f3 := h.fz 3
  have f4 := h.fz 4
  obtain ⟨i, r, o, t, s⟩ := d
  refine ⟨((((w.setCell ⟨x, 0, none⟩ (.int .i64 i)).setCell ⟨x, 1, none⟩ (.string r)).setCell ⟨x, 2, none⟩ (.string o)).setCell ⟨x, 3, none⟩ (.int .i64 t)).setCell ⟨x, 4, none⟩ (.bool s), by dsimp only [caseV]; go_simp, ⟨rfl, rfl, rfl, by simp [World.setCell], fun k _ hne => ?_⟩, by simp [World.setCell]⟩
  have hk : k ≠ x := fun e => hne (by rw [e])
  exact (Below.heap_setCell _ _ _ k hk).trans ((Below.heap_setCell _ _ _ k hk).trans ((Below.heap_setCell _ _ _ k hk).trans ((Below.heap_setCell _ _ _ k hk).trans (Below.heap_setCell _ _ _ k hk))))

structure LvZ (W0 : World) (Dd : Nat) (R : List Int) (F : Value → Value → Value) (D : DeskD) (V : Nat → Value) (L : Nat → Bool) (w : World) : Prop where
  g : W0.grownBy w (some Dd)
  lo : Dd < W0.heap.size
  d0 : L 2 = false → DiceAt w Dd R
  d1 : L 2 = true → DiceAt w Dd R.tail
  cn : L 5 = true → L 2 = true
  em : L 6 = true → L 5 = true ∧ V 6 = V 5
  ee : L 7 = true → L 6 = true ∧ ∀ u x, V 6 = F u x → V 7 = .agg #[u, x]
  es : L 10 = true → L 7 = true ∧ L 9 = true
  al : L 9 = true → ∃ nb, V 9 = .pointer (some ⟨nb, 0, none⟩) ∧ W0.heap.size ≤ nb ∧ (L 10 = false → DeskCell w nb (.slice none 0 0) (.slice none 0 0)) ∧ (L 10 = true → ∃ u x, V 5 = F u x ∧ DeskCell w nb u x)
  ak : L 100 = true → ∃ kb, V 100 = .pointer (some ⟨kb, 0, none⟩) ∧ W0.heap.size ≤ kb ∧ kb < w.heap.size ∧ (L 101 = false → CaseC w kb zeroK) ∧ (L 9 = true → V 9 ≠ .pointer (some ⟨kb, 0, none⟩))
  dk : L 5 = true → ∃ u x, V 5 = F u x ∧ DeskR (AwP W0 (L 9) (V 9) (L 100) (V 100)) w (.agg #[u, x]) D
  et : L 101 = true → L 100 = true
section
variable {W0 w w' : World} {Dd : Nat} {R : List Int} {F : Value → Value → Value} {D : DeskD} {V : Nat → Value} {L : Nat → Bool}
theorem LvZ.start (hd : DiceAt W0 Dd R) (V : Nat → Value) : LvZ W0 Dd R F D V (fun _ => false) W0.drew :=
  ⟨grown_of_below (Below.drew (Below.refl _ _)), hd.lt, fun _ => hd.below (Below.drew (Below.refl _ _)), fun e => (by cases e), fun e => (by cases e), fun e => (by cases e), fun e => (by cases e), fun e => (by cases e), fun e => (by cases e), fun e => (by cases e), fun e => (by cases e), fun e => (by cases e)⟩
theorem LvZ.mv (h : LvZ W0 Dd R F D V L w) (i : Nat) (hi : 2 ≠ i ∧ 5 ≠ i ∧ 6 ≠ i ∧ 7 ≠ i ∧ 9 ≠ i ∧ 10 ≠ i ∧ 100 ≠ i ∧ 101 ≠ i) {v : Value} : LvZ W0 Dd R F D (updV V i v) (upd L i) w := by
  obtain ⟨h1, h2, h3, h4, h5, h6, h7, h8⟩ := hi
  obtain ⟨q1, q2, q3, q4, q5, q6, q7, q8, q9, q10, q11, q12⟩ := h
  refine ⟨?_, ?_, ?_, ?_, ?_, ?_, ?_, ?_, ?_, ?_, ?_, ?_⟩ <;> (try simp only [upd_other _ h1, upd_other _ h2, upd_other _ h3, upd_other _ h4, upd_other _ h5, upd_other _ h6, upd_other _ h7, upd_other _ h8, updV_other _ _ h2, updV_other _ _ h3, updV_other _ _ h4, updV_other _ _ h5, updV_other _ _ h7]) <;> assumption
theorem LvZ.nc (h : LvZ W0 Dd R F D V L w) (hL : L 2 = false) : L 5 = false := by
  cases q : L 5 with
  | false => rfl
  | true => have := h.cn q; rw [hL] at this; cases this
theorem LvZ.nm (h : LvZ W0 Dd R F D V L w) (hL : L 5 = false) : L 6 = false := by
  cases q : L 6 with
  | false => rfl
  | true => have := (h.em q).1; rw [hL] at this; cases this
theorem LvZ.ne (h : LvZ W0 Dd R F D V L w) (hL : L 6 = false) : L 7 = false := by
  cases q : L 7 with
  | false => rfl
  | true => have := (h.ee q).1; rw [hL] at this; cases this
theorem LvZ.ns (h : LvZ W0 Dd R F D V L w) (hL : L 7 = false ∨ L 9 = false) : L 10 = false := by
  cases q : L 10 with
  | false => rfl
  | true =>
    have := h.es q
    rcases hL with r | r
    · rw [r] at this; cases this.1
    · rw [r] at this; cases this.2
/-- The throw. -/
theorem LvZ.nx (h : LvZ W0 Dd R F D V L w) (hL : L 2 = false) (hd : DiceAt w' Dd R.tail) (hg : w.grownBy w' (some Dd)) {v : Value} : LvZ W0 Dd R F D (updV V 2 v) (upd L 2) w' := by
  have nc := h.nc hL
  have ns := h.ns (.inl (h.ne (h.nm nc)))
  have hl := h.lo
  have kp : ∀ b, W0.heap.size ≤ b → b < w.heap.size → w'.heap[b]? = w.heap[b]? := fun b q1 q2 => hg.block b q2 (fun e => by injection e with e; omega)
  refine ⟨grown_trans h.g hg, hl, fun e => (by cases e), fun _ => hd, fun e => absurd e (by show ¬ L 5 = true; rw [nc]; decide), h.em, h.ee, h.es, fun e => ?_, fun e => ?_, fun e => absurd e (by show ¬ L 5 = true; rw [nc]; decide), h.et⟩
  · obtain ⟨nb, r1, r2, r3, r4⟩ := h.al e
    exact ⟨nb, r1, r2, fun q => (r3 q).keep (kp nb r2 (r3 q).lt), fun q => absurd q (by show ¬ L 10 = true; rw [ns]; decide)⟩
  · obtain ⟨kb, r1, r2, r3, r4, r5⟩ := h.ak e
    exact ⟨kb, r1, r2, Nat.lt_of_lt_of_le r3 hg.size, fun q => (r4 q).keep' (kp kb r2 r3), r5⟩
/-- The call. -/
theorem LvZ.oc (h : LvZ W0 Dd R F D V L w) (hL : L 5 = false) (hn : L 2 = true) {u x : Value} (hb : Below w.heap.size w w') (ho : DeskO w' w.heap.size u x D) : LvZ W0 Dd R F D (updV V 5 (F u x)) (upd L 5) w' := by
  have nm := h.nm hL
  have ns := h.ns (.inl (h.ne nm))
  refine ⟨grown_trans h.g (grown_of_below hb), h.lo, fun e => (h.d0 e).below hb, fun e => (h.d1 e).below hb, fun _ => hn, fun e => absurd e (by show ¬ L 6 = true; rw [nm]; decide), h.ee, h.es, fun e => ?_, fun e => ?_, fun _ => ⟨u, x, rfl, ho.read.mono fun b _ hb => ⟨Nat.le_trans h.g.size hb, fun q e => ?_, fun q e => ?_⟩⟩, h.et⟩
  · obtain ⟨nb, r1, r2, r3, r4⟩ := h.al e
    exact ⟨nb, r1, r2, fun q => (r3 q).below hb, fun q => absurd q (by show ¬ L 10 = true; rw [ns]; decide)⟩
  · obtain ⟨kb, r1, r2, r3, r4, r5⟩ := h.ak e
    exact ⟨kb, r1, r2, Nat.lt_of_lt_of_le r3 hb.size, fun q => (r4 q).below hb, r5⟩
  · obtain ⟨nb, r1, r2, r3, r4⟩ := h.al q
    have e2 : V 9 = .pointer (some ⟨b, 0, none⟩) := e
    rw [r1] at e2
    have := ptr_inj e2
    have := (r3 ns).lt
    omega
  · obtain ⟨kb, r1, r2, r3, r4, r5⟩ := h.ak q
    have e2 : V 100 = .pointer (some ⟨b, 0, none⟩) := e
    rw [r1] at e2
    have := ptr_inj e2
    omega
theorem LvZ.om (h : LvZ W0 Dd R F D V L w) (hL : L 6 = false) (hc : L 5 = true) {v : Value} (hv : v = V 5) : LvZ W0 Dd R F D (updV V 6 v) (upd L 6) w := by
  have ne := h.ne hL
  exact ⟨h.g, h.lo, h.d0, h.d1, h.cn, fun _ => ⟨hc, hv⟩, fun e => absurd e (by show ¬ L 7 = true; rw [ne]; decide), h.es, h.al, h.ak, h.dk, h.et⟩
theorem LvZ.oe (h : LvZ W0 Dd R F D V L w) (hL : L 7 = false) (hm : L 6 = true) {v : Value} (hv : ∀ u x, V 6 = F u x → v = .agg #[u, x]) : LvZ W0 Dd R F D (updV V 7 v) (upd L 7) w := by
  have ns := h.ns (.inl hL)
  exact ⟨h.g, h.lo, h.d0, h.d1, h.cn, h.em, fun _ => ⟨hm, hv⟩, fun e => absurd e (by show ¬ L 10 = true; rw [ns]; decide), h.al, h.ak, h.dk, h.et⟩
theorem LvZ.oa (h : LvZ W0 Dd R F D V L w) (hL : L 9 = false) : LvZ W0 Dd R F D (updV V 9 (.pointer (some ⟨w.heap.size, 0, none⟩))) (upd L 9) (w.alloc (.cells #[.slice none 0 0, .slice none 0 0] 30)) := by
  have ns := h.ns (.inr hL)
  have hb := below_alloc w (.cells #[.slice none 0 0, .slice none 0 0] 30)
  refine ⟨grown_trans h.g (grown_of_below hb), h.lo, fun e => (h.d0 e).below hb, fun e => (h.d1 e).below hb, h.cn, h.em, h.ee, fun e => absurd e (by show ¬ L 10 = true; rw [ns]; decide), fun _ => ⟨_, rfl, h.g.size, fun _ => DeskCell.new _ _ rfl, fun q => absurd q (by show ¬ L 10 = true; rw [ns]; decide)⟩, fun e => ?_, fun e => ?_, h.et⟩
  · obtain ⟨kb, r1, r2, r3, r4, r5⟩ := h.ak e
    exact ⟨kb, r1, r2, Nat.lt_of_lt_of_le r3 hb.size, fun q => (r4 q).below hb, fun _ e2 => by have e3 : w.heap.size = kb := ptr_inj e2; omega⟩
  · obtain ⟨u, x, r1, r2⟩ := h.dk e
    exact ⟨u, x, r1, (r2.mono (Q := AwP W0 true (.pointer (some ⟨w.heap.size, 0, none⟩)) (L 100) (V 100)) fun b hl hb => ⟨hb.1, fun _ e2 => by have e3 : w.heap.size = b := ptr_inj e2; omega, hb.2.2⟩).below hb⟩
theorem LvZ.ok (h : LvZ W0 Dd R F D V L w) (hL : L 100 = false) (hz : L 101 = false) : LvZ W0 Dd R F D (updV V 100 (.pointer (some ⟨w.heap.size, 0, none⟩))) (upd L 100) (w.alloc (.cells #[.int .i64 0, .string ⟨#[]⟩, .string ⟨#[]⟩, .int .i64 0, .bool false] 37)) := by
  have hb := below_alloc w (.cells #[.int .i64 0, .string ⟨#[]⟩, .string ⟨#[]⟩, .int .i64 0, .bool false] 37)
  refine ⟨grown_trans h.g (grown_of_below hb), h.lo, fun e => (h.d0 e).below hb, fun e => (h.d1 e).below hb, h.cn, h.em, h.ee, h.es, fun e => ?_, fun _ => ⟨_, rfl, h.g.size, by simp, fun _ => CaseC.new zeroK rfl, fun q e2 => ?_⟩, fun e => ?_, fun _ => rfl⟩
  · obtain ⟨nb, r1, r2, r3, r4⟩ := h.al e
    exact ⟨nb, r1, r2, fun q => (r3 q).below hb, fun q => by obtain ⟨u, x, s1, s2⟩ := r4 q; exact ⟨u, x, s1, s2.below hb⟩⟩
  · obtain ⟨nb, r1, r2, r3, r4⟩ := h.al q
    have e3 : V 9 = .pointer (some ⟨w.heap.size, 0, none⟩) := e2
    rw [r1] at e3
    have := ptr_inj e3
    cases hs : L 10 with
    | false => have := (r3 hs).lt; omega
    | true => obtain ⟨u, x, s1, s2⟩ := r4 hs; have := s2.lt; omega
  · obtain ⟨u, x, r1, r2⟩ := h.dk e
    exact ⟨u, x, r1, (r2.mono (Q := AwP W0 (L 9) (V 9) true (.pointer (some ⟨w.heap.size, 0, none⟩))) fun b hl hb => ⟨hb.1, hb.2.1, fun _ e2 => by have e3 : w.heap.size = b := ptr_inj e2; omega⟩).below hb⟩
theorem LvZ.os (h : LvZ W0 Dd R F D V L w) (hL : L 10 = false) (he : L 7 = true) (ha : L 9 = true) : ∃ w', (Instr.storeAt 30 (V 9) (V 7)).run Try.prog w = .ok () w' ∧ ∀ v, LvZ W0 Dd R F D (updV V 10 v) (upd L 10) w' := by
  obtain ⟨hm, hev⟩ := h.ee he
  obtain ⟨hc, hmv⟩ := h.em hm
  obtain ⟨u, x, r1, r2⟩ := h.dk hc
  obtain ⟨nb, q1, q2, q3, -⟩ := h.al ha
  have e1 := hev u x (by rw [hmv, r1])
  have hcell := q3 hL
  obtain ⟨A, ca, B, cb, eu, -⟩ := r2
  injection eu with eu
  simp only [Array.mk.injEq, List.cons.injEq, and_true] at eu
  obtain ⟨rfl, rfl⟩ := eu
  have hk : ∀ k, k ≠ nb → ((w.setCell ⟨nb, 0, none⟩ (.slice A D.cs.length ca)).setCell ⟨nb, 1, none⟩ (.slice B D.ks.length cb)).heap[k]? = w.heap[k]? := fun k hk => (Below.heap_setCell _ _ _ k hk).trans (Below.heap_setCell _ _ _ k hk)
  have hg : w.grownBy ((w.setCell ⟨nb, 0, none⟩ (.slice A D.cs.length ca)).setCell ⟨nb, 1, none⟩ (.slice B D.ks.length cb)) (some nb) := ⟨rfl, rfl, rfl, by simp [World.setCell], fun k _ hne => hk k (fun e => hne (by rw [e]))⟩
  have g0 := h.g
  have hlo := h.lo
  have hd : ∀ {R : List Int}, DiceAt w Dd R → DiceAt ((w.setCell ⟨nb, 0, none⟩ (.slice A D.cs.length ca)).setCell ⟨nb, 1, none⟩ (.slice B D.ks.length cb)) Dd R := fun d => d.keep fun k hk2 => hk k (by omega)
  rw [q1, e1]
  refine ⟨_, st_desk hcell A B _ _ ca cb, fun v => ⟨⟨g0.os, g0.tape, g0.output, by simpa [World.setCell] using g0.size, fun k hk2 hne => (hk k (by omega)).trans (g0.block k hk2 hne)⟩, hlo, fun e => hd (h.d0 e), fun e => hd (h.d1 e), h.cn, h.em, h.ee, fun _ => ⟨he, ha⟩, fun _ => ⟨nb, q1, q2, fun q => (by cases q), fun _ => ⟨_, _, r1, (hcell.set0 _).set1 _⟩⟩, fun e => ?_, fun _ => ?_, h.et⟩⟩
  · obtain ⟨kb, s1, s2, s3, s4, s5⟩ := h.ak e
    have hne : kb ≠ nb := fun e2 => s5 ha (by rw [q1, e2])
    exact ⟨kb, s1, s2, by simpa [World.setCell] using s3, fun q => (s4 q).keep' (hk kb hne), s5⟩
  · obtain ⟨u', x', r1', r2'⟩ := h.dk hc
    exact ⟨u', x', r1', r2'.keep (Kpt.grown hg fun b hb e => by injection e with e; exact hb.2.1 ha (by rw [q1, e]))⟩
theorem LvZ.ot (h : LvZ W0 Dd R F D V L w) (hL : L 101 = false) (hk : L 100 = true) (d : CaseD) : ∃ w', (Instr.storeAt 37 (V 100) (caseV d)).run Try.prog w = .ok () w' ∧ ∀ v, LvZ W0 Dd R F D (updV V 101 v) (upd L 101) w' := by
  obtain ⟨kb, s1, s2, s3, s4, s5⟩ := h.ak hk
  obtain ⟨w', t1, t2, t3⟩ := st_case (s4 hL) d
  have hkk : ∀ k, k < w.heap.size → k ≠ kb → w'.heap[k]? = w.heap[k]? := fun k hk hne => t2.block k hk (fun e => by injection e with e; exact hne e)
  have g0 := h.g
  have hlo := h.lo
  have hd : ∀ {R : List Int}, DiceAt w Dd R → DiceAt w' Dd R := fun d => by have := d.lt; exact d.keep fun k hk2 => hkk k (by omega) (by omega)
  rw [s1]
  refine ⟨w', t1, fun v => ⟨⟨t2.os.trans g0.os, t2.tape.trans g0.tape, t2.output.trans g0.output, Nat.le_trans g0.size t2.size, fun k hk2 hne => (hkk k (by have := g0.size; omega) (by omega)).trans (g0.block k hk2 hne)⟩, hlo, fun e => hd (h.d0 e), fun e => hd (h.d1 e), h.cn, h.em, h.ee, h.es, fun e => ?_, fun _ => ⟨kb, s1, s2, by omega, fun q => (by cases q), s5⟩, fun e => ?_, fun _ => hk⟩⟩
  · obtain ⟨nb, r1, r2, r3, r4⟩ := h.al e
    have hne : nb ≠ kb := fun e2 => s5 e (by rw [r1, e2])
    refine ⟨nb, r1, r2, fun q => (r3 q).keep (hkk nb (r3 q).lt hne), fun q => ?_⟩
    obtain ⟨u, x, e1, e2⟩ := r4 q
    exact ⟨u, x, e1, e2.keep (hkk nb e2.lt hne)⟩
  · obtain ⟨u, x, r1, r2⟩ := h.dk e
    exact ⟨u, x, r1, r2.keep (Kpt.grown t2 fun b hb e => by injection e with e; exact hb.2.2 hk (by rw [s1, e]))⟩
/-- Behind the region. -/
theorem LvZ.fin (h : LvZ W0 Dd R F D V L w) (HF : ∀ u x u1 x1, F u x = F u1 x1 → u = u1 ∧ x = x1) (hs : L 10 = true) (hn : L 2 = true) : ∃ nb u x, V 9 = .pointer (some ⟨nb, 0, none⟩) ∧ W0.heap.size ≤ nb ∧ V 5 = F u x ∧ DeskCell w nb u x ∧ DeskR (fun b => W0.heap.size ≤ b ∧ b ≠ nb) w (.agg #[u, x]) D ∧ DiceAt w Dd R.tail ∧ W0.grownBy w (some Dd) := by
  obtain ⟨he, ha⟩ := h.es hs
  obtain ⟨hm, -⟩ := h.ee he
  obtain ⟨hc, -⟩ := h.em hm
  obtain ⟨nb, q1, q2, -, q4⟩ := h.al ha
  obtain ⟨u, x, r1, r2⟩ := q4 hs
  obtain ⟨u', x', s1, s2⟩ := h.dk hc
  obtain ⟨hu, hx⟩ : u' = u ∧ x' = x := HF _ _ _ _ (s1.symm.trans r1)
  subst hu hx
  exact ⟨nb, u', x', q1, q2, r1, r2, s2.mono fun b _ hb => ⟨hb.1, fun e => hb.2.1 ha (by rw [q1, e])⟩, h.d1 hn, h.g⟩
end

structure AcZ (W0 : World) (Dd : Nat) (R : List Int) (F : Value → Value → Value) (D : DeskD) (V : Nat → Value) (L : Nat → Bool) (w : World) : Prop where
  g : W0.grownBy w (some Dd)
  lo : Dd < W0.heap.size
  d0 : L 2 = false → DiceAt w Dd R
  d1 : L 2 = true → DiceAt w Dd R.tail
  cn : L 5 = true → L 2 = true
  em : L 6 = true → L 5 = true ∧ V 6 = V 5
  ee : L 7 = true → L 6 = true ∧ ∀ u x, V 6 = F u x → V 7 = .agg #[u, x]
  es : L 12 = true → L 7 = true ∧ L 10 = true
  al : L 10 = true → ∃ nb, V 10 = .pointer (some ⟨nb, 0, none⟩) ∧ W0.heap.size ≤ nb ∧ (L 12 = false → DeskCell w nb (.slice none 0 0) (.slice none 0 0)) ∧ (L 12 = true → ∃ u x, V 5 = F u x ∧ DeskCell w nb u x)
  ak : L 11 = true → ∃ kb, V 11 = .pointer (some ⟨kb, 0, none⟩) ∧ W0.heap.size ≤ kb ∧ kb < w.heap.size ∧ (L 13 = false → CaseC w kb zeroK) ∧ (L 10 = true → V 10 ≠ .pointer (some ⟨kb, 0, none⟩))
  dk : L 5 = true → ∃ u x, V 5 = F u x ∧ DeskR (AwP W0 (L 10) (V 10) (L 11) (V 11)) w (.agg #[u, x]) D
  et : L 13 = true → L 11 = true
section
variable {W0 w w' : World} {Dd : Nat} {R : List Int} {F : Value → Value → Value} {D : DeskD} {V : Nat → Value} {L : Nat → Bool}
theorem AcZ.start (hd : DiceAt W0 Dd R) (V : Nat → Value) : AcZ W0 Dd R F D V (fun _ => false) W0.drew :=
  ⟨grown_of_below (Below.drew (Below.refl _ _)), hd.lt, fun _ => hd.below (Below.drew (Below.refl _ _)), fun e => (by cases e), fun e => (by cases e), fun e => (by cases e), fun e => (by cases e), fun e => (by cases e), fun e => (by cases e), fun e => (by cases e), fun e => (by cases e), fun e => (by cases e)⟩
theorem AcZ.mv (h : AcZ W0 Dd R F D V L w) (i : Nat) (hi : 2 ≠ i ∧ 5 ≠ i ∧ 6 ≠ i ∧ 7 ≠ i ∧ 10 ≠ i ∧ 12 ≠ i ∧ 11 ≠ i ∧ 13 ≠ i) {v : Value} : AcZ W0 Dd R F D (updV V i v) (upd L i) w := by
  obtain ⟨h1, h2, h3, h4, h5, h6, h7, h8⟩ := hi
  obtain ⟨q1, q2, q3, q4, q5, q6, q7, q8, q9, q10, q11, q12⟩ := h
  refine ⟨?_, ?_, ?_, ?_, ?_, ?_, ?_, ?_, ?_, ?_, ?_, ?_⟩ <;> (try simp only [upd_other _ h1, upd_other _ h2, upd_other _ h3, upd_other _ h4, upd_other _ h5, upd_other _ h6, upd_other _ h7, upd_other _ h8, updV_other _ _ h2, updV_other _ _ h3, updV_other _ _ h4, updV_other _ _ h5, updV_other _ _ h7]) <;> assumption
theorem AcZ.nc (h : AcZ W0 Dd R F D V L w) (hL : L 2 = false) : L 5 = false := by
  cases q : L 5 with
  | false => rfl
  | true => have := h.cn q; rw [hL] at this; cases this
theorem AcZ.nm (h : AcZ W0 Dd R F D V L w) (hL : L 5 = false) : L 6 = false := by
  cases q : L 6 with
  | false => rfl
  | true => have := (h.em q).1; rw [hL] at this; cases this
theorem AcZ.ne (h : AcZ W0 Dd R F D V L w) (hL : L 6 = false) : L 7 = false := by
  cases q : L 7 with
  | false => rfl
  | true => have := (h.ee q).1; rw [hL] at this; cases this
theorem AcZ.ns (h : AcZ W0 Dd R F D V L w) (hL : L 7 = false ∨ L 10 = false) : L 12 = false := by
  cases q : L 12 with
  | false => rfl
  | true =>
    have := h.es q
    rcases hL with r | r
    · rw [r] at this; cases this.1
    · rw [r] at this; cases this.2
/-- The throw. -/
theorem AcZ.nx (h : AcZ W0 Dd R F D V L w) (hL : L 2 = false) (hd : DiceAt w' Dd R.tail) (hg : w.grownBy w' (some Dd)) {v : Value} : AcZ W0 Dd R F D (updV V 2 v) (upd L 2) w' := by
  have nc := h.nc hL
  have ns := h.ns (.inl (h.ne (h.nm nc)))
  have hl := h.lo
  have kp : ∀ b, W0.heap.size ≤ b → b < w.heap.size → w'.heap[b]? = w.heap[b]? := fun b q1 q2 => hg.block b q2 (fun e => by injection e with e; omega)
  refine ⟨grown_trans h.g hg, hl, fun e => (by cases e), fun _ => hd, fun e => absurd e (by show ¬ L 5 = true; rw [nc]; decide), h.em, h.ee, h.es, fun e => ?_, fun e => ?_, fun e => absurd e (by show ¬ L 5 = true; rw [nc]; decide), h.et⟩
  · obtain ⟨nb, r1, r2, r3, r4⟩ := h.al e
    exact ⟨nb, r1, r2, fun q => (r3 q).keep (kp nb r2 (r3 q).lt), fun q => absurd q (by show ¬ L 12 = true; rw [ns]; decide)⟩
  · obtain ⟨kb, r1, r2, r3, r4, r5⟩ := h.ak e
    exact ⟨kb, r1, r2, Nat.lt_of_lt_of_le r3 hg.size, fun q => (r4 q).keep' (kp kb r2 r3), r5⟩
/-- The call. -/
theorem AcZ.oc (h : AcZ W0 Dd R F D V L w) (hL : L 5 = false) (hn : L 2 = true) {u x : Value} (hb : Below w.heap.size w w') (ho : DeskO w' w.heap.size u x D) : AcZ W0 Dd R F D (updV V 5 (F u x)) (upd L 5) w' := by
  have nm := h.nm hL
  have ns := h.ns (.inl (h.ne nm))
  refine ⟨grown_trans h.g (grown_of_below hb), h.lo, fun e => (h.d0 e).below hb, fun e => (h.d1 e).below hb, fun _ => hn, fun e => absurd e (by show ¬ L 6 = true; rw [nm]; decide), h.ee, h.es, fun e => ?_, fun e => ?_, fun _ => ⟨u, x, rfl, ho.read.mono fun b _ hb => ⟨Nat.le_trans h.g.size hb, fun q e => ?_, fun q e => ?_⟩⟩, h.et⟩
  · obtain ⟨nb, r1, r2, r3, r4⟩ := h.al e
    exact ⟨nb, r1, r2, fun q => (r3 q).below hb, fun q => absurd q (by show ¬ L 12 = true; rw [ns]; decide)⟩
  · obtain ⟨kb, r1, r2, r3, r4, r5⟩ := h.ak e
    exact ⟨kb, r1, r2, Nat.lt_of_lt_of_le r3 hb.size, fun q => (r4 q).below hb, r5⟩
  · obtain ⟨nb, r1, r2, r3, r4⟩ := h.al q
    have e2 : V 10 = .pointer (some ⟨b, 0, none⟩) := e
    rw [r1] at e2
    have := ptr_inj e2
    have := (r3 ns).lt
    omega
  · obtain ⟨kb, r1, r2, r3, r4, r5⟩ := h.ak q
    have e2 : V 11 = .pointer (some ⟨b, 0, none⟩) := e
    rw [r1] at e2
    have := ptr_inj e2
    omega
theorem AcZ.om (h : AcZ W0 Dd R F D V L w) (hL : L 6 = false) (hc : L 5 = true) {v : Value} (hv : v = V 5) : AcZ W0 Dd R F D (updV V 6 v) (upd L 6) w := by
  have ne := h.ne hL
  exact ⟨h.g, h.lo, h.d0, h.d1, h.cn, fun _ => ⟨hc, hv⟩, fun e => absurd e (by show ¬ L 7 = true; rw [ne]; decide), h.es, h.al, h.ak, h.dk, h.et⟩
theorem AcZ.oe (h : AcZ W0 Dd R F D V L w) (hL : L 7 = false) (hm : L 6 = true) {v : Value} (hv : ∀ u x, V 6 = F u x → v = .agg #[u, x]) : AcZ W0 Dd R F D (updV V 7 v) (upd L 7) w := by
  have ns := h.ns (.inl hL)
  exact ⟨h.g, h.lo, h.d0, h.d1, h.cn, h.em, fun _ => ⟨hm, hv⟩, fun e => absurd e (by show ¬ L 12 = true; rw [ns]; decide), h.al, h.ak, h.dk, h.et⟩
theorem AcZ.oa (h : AcZ W0 Dd R F D V L w) (hL : L 10 = false) : AcZ W0 Dd R F D (updV V 10 (.pointer (some ⟨w.heap.size, 0, none⟩))) (upd L 10) (w.alloc (.cells #[.slice none 0 0, .slice none 0 0] 30)) := by
  have ns := h.ns (.inr hL)
  have hb := below_alloc w (.cells #[.slice none 0 0, .slice none 0 0] 30)
  refine ⟨grown_trans h.g (grown_of_below hb), h.lo, fun e => (h.d0 e).below hb, fun e => (h.d1 e).below hb, h.cn, h.em, h.ee, fun e => absurd e (by show ¬ L 12 = true; rw [ns]; decide), fun _ => ⟨_, rfl, h.g.size, fun _ => DeskCell.new _ _ rfl, fun q => absurd q (by show ¬ L 12 = true; rw [ns]; decide)⟩, fun e => ?_, fun e => ?_, h.et⟩
  · obtain ⟨kb, r1, r2, r3, r4, r5⟩ := h.ak e
    exact ⟨kb, r1, r2, Nat.lt_of_lt_of_le r3 hb.size, fun q => (r4 q).below hb, fun _ e2 => by have e3 : w.heap.size = kb := ptr_inj e2; omega⟩
  · obtain ⟨u, x, r1, r2⟩ := h.dk e
    exact ⟨u, x, r1, (r2.mono (Q := AwP W0 true (.pointer (some ⟨w.heap.size, 0, none⟩)) (L 11) (V 11)) fun b hl hb => ⟨hb.1, fun _ e2 => by have e3 : w.heap.size = b := ptr_inj e2; omega, hb.2.2⟩).below hb⟩
theorem AcZ.ok (h : AcZ W0 Dd R F D V L w) (hL : L 11 = false) (hz : L 13 = false) : AcZ W0 Dd R F D (updV V 11 (.pointer (some ⟨w.heap.size, 0, none⟩))) (upd L 11) (w.alloc (.cells #[.int .i64 0, .string ⟨#[]⟩, .string ⟨#[]⟩, .int .i64 0, .bool false] 37)) := by
  have hb := below_alloc w (.cells #[.int .i64 0, .string ⟨#[]⟩, .string ⟨#[]⟩, .int .i64 0, .bool false] 37)
  refine ⟨grown_trans h.g (grown_of_below hb), h.lo, fun e => (h.d0 e).below hb, fun e => (h.d1 e).below hb, h.cn, h.em, h.ee, h.es, fun e => ?_, fun _ => ⟨_, rfl, h.g.size, by simp, fun _ => CaseC.new zeroK rfl, fun q e2 => ?_⟩, fun e => ?_, fun _ => rfl⟩
  · obtain ⟨nb, r1, r2, r3, r4⟩ := h.al e
    exact ⟨nb, r1, r2, fun q => (r3 q).below hb, fun q => by obtain ⟨u, x, s1, s2⟩ := r4 q; exact ⟨u, x, s1, s2.below hb⟩⟩
  · obtain ⟨nb, r1, r2, r3, r4⟩ := h.al q
    have e3 : V 10 = .pointer (some ⟨w.heap.size, 0, none⟩) := e2
    rw [r1] at e3
    have := ptr_inj e3
    cases hs : L 12 with
    | false => have := (r3 hs).lt; omega
    | true => obtain ⟨u, x, s1, s2⟩ := r4 hs; have := s2.lt; omega
  · obtain ⟨u, x, r1, r2⟩ := h.dk e
    exact ⟨u, x, r1, (r2.mono (Q := AwP W0 (L 10) (V 10) true (.pointer (some ⟨w.heap.size, 0, none⟩))) fun b hl hb => ⟨hb.1, hb.2.1, fun _ e2 => by have e3 : w.heap.size = b := ptr_inj e2; omega⟩).below hb⟩
theorem AcZ.os (h : AcZ W0 Dd R F D V L w) (hL : L 12 = false) (he : L 7 = true) (ha : L 10 = true) : ∃ w', (Instr.storeAt 30 (V 10) (V 7)).run Try.prog w = .ok () w' ∧ ∀ v, AcZ W0 Dd R F D (updV V 12 v) (upd L 12) w' := by
  obtain ⟨hm, hev⟩ := h.ee he
  obtain ⟨hc, hmv⟩ := h.em hm
  obtain ⟨u, x, r1, r2⟩ := h.dk hc
  obtain ⟨nb, q1, q2, q3, -⟩ := h.al ha
  have e1 := hev u x (by rw [hmv, r1])
  have hcell := q3 hL
  obtain ⟨A, ca, B, cb, eu, -⟩ := r2
  injection eu with eu
  simp only [Array.mk.injEq, List.cons.injEq, and_true] at eu
  obtain ⟨rfl, rfl⟩ := eu
  have hk : ∀ k, k ≠ nb → ((w.setCell ⟨nb, 0, none⟩ (.slice A D.cs.length ca)).setCell ⟨nb, 1, none⟩ (.slice B D.ks.length cb)).heap[k]? = w.heap[k]? := fun k hk => (Below.heap_setCell _ _ _ k hk).trans (Below.heap_setCell _ _ _ k hk)
  have hg : w.grownBy ((w.setCell ⟨nb, 0, none⟩ (.slice A D.cs.length ca)).setCell ⟨nb, 1, none⟩ (.slice B D.ks.length cb)) (some nb) := ⟨rfl, rfl, rfl, by simp [World.setCell], fun k _ hne => hk k (fun e => hne (by rw [e]))⟩
  have g0 := h.g
  have hlo := h.lo
  have hd : ∀ {R : List Int}, DiceAt w Dd R → DiceAt ((w.setCell ⟨nb, 0, none⟩ (.slice A D.cs.length ca)).setCell ⟨nb, 1, none⟩ (.slice B D.ks.length cb)) Dd R := fun d => d.keep fun k hk2 => hk k (by omega)
  rw [q1, e1]
  refine ⟨_, st_desk hcell A B _ _ ca cb, fun v => ⟨⟨g0.os, g0.tape, g0.output, by simpa [World.setCell] using g0.size, fun k hk2 hne => (hk k (by omega)).trans (g0.block k hk2 hne)⟩, hlo, fun e => hd (h.d0 e), fun e => hd (h.d1 e), h.cn, h.em, h.ee, fun _ => ⟨he, ha⟩, fun _ => ⟨nb, q1, q2, fun q => (by cases q), fun _ => ⟨_, _, r1, (hcell.set0 _).set1 _⟩⟩, fun e => ?_, fun _ => ?_, h.et⟩⟩
  · obtain ⟨kb, s1, s2, s3, s4, s5⟩ := h.ak e
    have hne : kb ≠ nb := fun e2 => s5 ha (by rw [q1, e2])
    exact ⟨kb, s1, s2, by simpa [World.setCell] using s3, fun q => (s4 q).keep' (hk kb hne), s5⟩
  · obtain ⟨u', x', r1', r2'⟩ := h.dk hc
    exact ⟨u', x', r1', r2'.keep (Kpt.grown hg fun b hb e => by injection e with e; exact hb.2.1 ha (by rw [q1, e]))⟩
theorem AcZ.ot (h : AcZ W0 Dd R F D V L w) (hL : L 13 = false) (hk : L 11 = true) (d : CaseD) : ∃ w', (Instr.storeAt 37 (V 11) (caseV d)).run Try.prog w = .ok () w' ∧ ∀ v, AcZ W0 Dd R F D (updV V 13 v) (upd L 13) w' := by
  obtain ⟨kb, s1, s2, s3, s4, s5⟩ := h.ak hk
  obtain ⟨w', t1, t2, t3⟩ := st_case (s4 hL) d
  have hkk : ∀ k, k < w.heap.size → k ≠ kb → w'.heap[k]? = w.heap[k]? := fun k hk hne => t2.block k hk (fun e => by injection e with e; exact hne e)
  have g0 := h.g
  have hlo := h.lo
  have hd : ∀ {R : List Int}, DiceAt w Dd R → DiceAt w' Dd R := fun d => by have := d.lt; exact d.keep fun k hk2 => hkk k (by omega) (by omega)
  rw [s1]
  refine ⟨w', t1, fun v => ⟨⟨t2.os.trans g0.os, t2.tape.trans g0.tape, t2.output.trans g0.output, Nat.le_trans g0.size t2.size, fun k hk2 hne => (hkk k (by have := g0.size; omega) (by omega)).trans (g0.block k hk2 hne)⟩, hlo, fun e => hd (h.d0 e), fun e => hd (h.d1 e), h.cn, h.em, h.ee, h.es, fun e => ?_, fun _ => ⟨kb, s1, s2, by omega, fun q => (by cases q), s5⟩, fun e => ?_, fun _ => hk⟩⟩
  · obtain ⟨nb, r1, r2, r3, r4⟩ := h.al e
    have hne : nb ≠ kb := fun e2 => s5 e (by rw [r1, e2])
    refine ⟨nb, r1, r2, fun q => (r3 q).keep (hkk nb (r3 q).lt hne), fun q => ?_⟩
    obtain ⟨u, x, e1, e2⟩ := r4 q
    exact ⟨u, x, e1, e2.keep (hkk nb e2.lt hne)⟩
  · obtain ⟨u, x, r1, r2⟩ := h.dk e
    exact ⟨u, x, r1, r2.keep (Kpt.grown t2 fun b hb e => by injection e with e; exact hb.2.2 hk (by rw [s1, e]))⟩
/-- Behind the region. -/
theorem AcZ.fin (h : AcZ W0 Dd R F D V L w) (HF : ∀ u x u1 x1, F u x = F u1 x1 → u = u1 ∧ x = x1) (hs : L 12 = true) (hn : L 2 = true) : ∃ nb u x, V 10 = .pointer (some ⟨nb, 0, none⟩) ∧ W0.heap.size ≤ nb ∧ V 5 = F u x ∧ DeskCell w nb u x ∧ DeskR (fun b => W0.heap.size ≤ b ∧ b ≠ nb) w (.agg #[u, x]) D ∧ DiceAt w Dd R.tail ∧ W0.grownBy w (some Dd) := by
  obtain ⟨he, ha⟩ := h.es hs
  obtain ⟨hm, -⟩ := h.ee he
  obtain ⟨hc, -⟩ := h.em hm
  obtain ⟨nb, q1, q2, -, q4⟩ := h.al ha
  obtain ⟨u, x, r1, r2⟩ := q4 hs
  obtain ⟨u', x', s1, s2⟩ := h.dk hc
  obtain ⟨hu, hx⟩ : u' = u ∧ x' = x := HF _ _ _ _ (s1.symm.trans r1)
  subst hu hx
  exact ⟨nb, u', x', q1, q2, r1, r2, s2.mono fun b _ hb => ⟨hb.1, fun e => hb.2.1 ha (by rw [q1, e])⟩, h.d1 hn, h.g⟩
end
end Go.Proofs.Ytjckpammcgeloaa
