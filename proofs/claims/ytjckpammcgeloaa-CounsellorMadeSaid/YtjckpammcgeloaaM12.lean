/-
  Desks: the walk of play.Desk.
  Desks: the beginning of the laws over a desk made by dice.
  Desks: a made desk with something appended; a region that throws dice, builds one element and appends it.
  Desks: the drawn regions of CounsellorMade.
  Conditions: those that each theorem names.
-/
import Derived.Test.YtjckpammcgeloaaM11
set_option linter.unusedVariables false
set_option linter.unusedSimpArgs false
namespace Go.Proofs.Ytjckpammcgeloaa
open Go.RowKit

theorem enter_nxt (args : Array Value) (w : World) : (callFunc 12 args).run Try.prog w = .ok (.enter 12 args) w :=
 Go.MuLone.run_callFunc_enter Try.func12 (by kernel_rfl) rfl args w
theorem enter_word (args : Array Value) (w : World) : (callFunc 15 args).run Try.prog w = .ok (.enter 15 args) w :=
 Go.MuLone.run_callFunc_enter Try.func15 (by kernel_rfl) rfl args w
theorem enter_one (args : Array Value) (w : World) : (callFunc 24 args).run Try.prog w = .ok (.enter 24 args) w :=
 Go.MuLone.run_callFunc_enter Try.func24 (by kernel_rfl) rfl args w
def strPr {R : World → World → Prop} : Pr R := ⟨fun u _ => ∃ s : ByteArray, u = .string s ∧ s.size ≤ 1000, fun _ _ _ h _ => h⟩
def blnPr {R : World → World → Prop} : Pr R := ⟨fun u _ => ∃ b : Bool, u = .bool b, fun _ _ _ h _ => h⟩
def casPr {R : World → World → Prop} : Pr R := ⟨fun u _ => ∃ x : CaseD, u = caseV x ∧ okC x, fun _ _ _ h _ => h⟩
theorem bd_case (w : World) (i : Int) (s o : ByteArray) (t : Int) (b : Bool) : (Instr.build 37 #[(0, .int .i64 i), (1, .string s), (2, .string o), (3,   .int .i64 t), (4, .bool b)]).run Try.prog w = .ok (caseV ⟨i, s, o, t, b⟩) w := by
 show _ = Result.ok (Value.agg #[.int .i64 i, .string s,   .string o, .int .i64 t, .bool b]) w
 go_simp
theorem bs_abc (w : World) : (Instr.buildSlice 43 3 #[(0, .string ⟨#[97, 110, 110]⟩), (1, .string ⟨#[98, 111, 98]⟩), (2, .string ⟨#[99, 105, 100]⟩)]).run Try.prog w = .ok (.slice (some ⟨w.heap.size, 0, none⟩) 3 3) (w.alloc (.cells ([bAnn, bBob, bCid].map Value.string).toArray 9)) := by
 show _ = Result.ok _ (w.alloc (.cells #[.string ⟨#[97, 110, 110]⟩, .string ⟨#[98, 111, 98]⟩, .string ⟨#[99, 105, 100]⟩] 9))
 go_simp
theorem abc_small (R : List Int) : (wordV [bAnn, bBob, bCid] R).size ≤ 1000 := by
 have h := wordV_in (L := [bAnn, bBob, bCid]) (R := R) (by decide)
 simp only [List.mem_cons, List.mem_nil_iff, or_false] at h
 rcases h with e | e | e <;> rw [e] <;> decide
theorem role_cases (R : List Int) : wordV [bHr, bLegal, bHr] R = bHr ∨ wordV [bHr, bLegal, bHr] R = bLegal := by
 have h := wordV_in (L := [bHr, bLegal, bHr]) (R := R) (by decide)
 simp only [List.mem_cons, List.mem_nil_iff, or_false] at h
 rcases h with e | e | e
 ·
  exact .inl e
 ·
  exact .inr e
 ·
  exact .inl e
theorem who_cases (R : List Int) : wordV [bAnn, bBob] R = bAnn ∨ wordV [bAnn, bBob] R = bBob := by
 have h := wordV_in (L := [bAnn, bBob]) (R := R) (by decide)
 simp only [List.mem_cons, List.mem_nil_iff, or_false] at h
 exact h
theorem PlS.start {w : World} {Dd : Nat} {R : List Int} (h : DiceAt w Dd R) : PlS w ((w.alloc (.cells #[.slice none 0 0, .slice none 0 0] 30)).alloc (.cells #[.slice none 0 0, .slice none 0 0] 30)) Dd w.heap.size R (.slice none 0 0) (.slice none 0 0) ⟨[], []⟩ := by
 have hb := bl_alloc (.cells #[.slice none 0 0, .slice none 0 0] 30) (below_alloc w (.cells #[.slice none 0 0, .slice none 0 0] 30))
 exact ⟨h.below hb, grown_of_below hb, h.lt, rfl, (DeskCell.new _ _ rfl).below (below_alloc _ _), DeskCell.new _ _ (by simp), ⟨⟨[], ElOwn.nil _ _ _ _, CousV.nil _ _⟩, ElOwn.nil _ _ _ _, fun b e => (by cases e)⟩⟩
theorem pl_store {w w4 w8 : World} {Dd B cb : Nat} {R4 R8 : List Int} {u v : Value} {D : DeskD} (h : PlS w w4 Dd B R4 u v D) (hg : w4.grownBy w8 (some Dd)) (hd : DiceAt w8 Dd R8) (hcb : w4.heap.size = cb) (hlt : cb < w8.heap.size) (s : ByteArray) (y : Value) :
  PlS w ((w8.setCell ⟨cb, 2, none⟩ y).alloc (.cells #[.string s] 9)) Dd B R8 u v D ∧ ((w8.setCell ⟨cb, 2, none⟩ y).alloc (.cells #[.string s] 9)).heap.size = w8.heap.size + 1 ∧ ElP ES (fun b => B + 1 + 1 ≤ b ∧ u.ownBlock ≠ some b ∧ v.ownBlock ≠ some b) ((w8.setCell ⟨cb, 2, none⟩ y).alloc (.cells #[.string s] 9)) (some ⟨w8.heap.size, 0, none⟩) 1 [s] := by
 have hb := below_alloc (w8.setCell ⟨cb, 2, none⟩ y) (.cells #[.string s] 9)
 have hsz : (w8.setCell ⟨cb, 2, none⟩ y).heap.size = w8.heap.size := by simp [World.setCell]
 have hx := h.x.lt
 have hl := h.lo
 have g9 : w4.grownBy ((w8.setCell ⟨cb, 2, none⟩ y).alloc (.cells #[.string s] 9)) (some Dd) :=
  grown_trans (show w4.grownBy (w8.setCell ⟨cb, 2, none⟩ y) (some Dd) from ⟨hg.os, hg.tape, hg.output, by rw [hsz]; exact hg.size, fun k hk hne => (Below.heap_setCell w8 ⟨cb, 2, none⟩ y k (fun e => by have e2 : k = cb := e; omega)).trans (hg.block k hk hne)⟩) (grown_of_below hb)
 have d9 := (hd.setCell ⟨cb, 2, none⟩ y (by show Dd < cb; omega)).below hb
 have hlit := lit_strs (w8.setCell ⟨cb, 2, none⟩ y) [s] 1 rfl (by simp)
 rw [hsz] at hlit
 obtain ⟨X, q1, -⟩ := h.o.cs
 refine ⟨h.dice d9 g9, by simp [World.setCell], hlit.mono fun b _ e => ⟨by omega, fun e2 => ?_, fun e2 => ?_⟩⟩
 ·
  have := (World.ownsRow.lt q1 b e2).2; omega
 ·
  have := (World.ownsRow.lt h.o.ks b e2).2; omega
theorem PlS.cou {w wr : World} {Dd B : Nat} {R : List Int} {A : Option Addr} {c : Nat} {v : Value} {C : List CouD} {K : List CaseD} (h : PlS w wr Dd B R (.slice A C.length c) v ⟨C, K⟩) : CousP (fun b => B + 1 + 1 ≤ b) wr A c C := by
 obtain ⟨X, q1, q2⟩ := h.o.cs
 obtain ⟨A', c', e, hE⟩ := q1.toP
 injection e with e1 e2 e3
 subst e1 e3
 exact ⟨X, hE.mono fun b _ hb => hb.2, q2.mono fun b _ hb => hb.1⟩
theorem PlS.fin {w wr : World} {Dd B : Nat} {R : List Int} {u v : Value} {C : List CouD} {K : List CaseD} (h : PlS w wr Dd B R u v ⟨C, K⟩) (hC : PlC C) (hl : C.length ≤ 4) (hK : PlK K) (hk : K.length ≤ 6) :
  DeskPl Dd w (.returned (.agg #[u, v])) ((wr.setCell ⟨B, 0, none⟩ u).setCell ⟨B, 1, none⟩ v) ∧ DeskCell ((wr.setCell ⟨B, 0, none⟩ u).setCell ⟨B, 1, none⟩ v) B u v := by
 have hn := h.n
 have hlo := h.lo
 have g := h.g
 have hkk : ∀ k, k < B → ((wr.setCell ⟨B, 0, none⟩ u).setCell ⟨B, 1, none⟩ v).heap[k]? = wr.heap[k]? := fun k hk => (Below.heap_setCell _ _ _ k (fun e => by have e2 : k = B := e; omega)).trans (Below.heap_setCell _ _ _ k (fun e => by have e2 : k = B := e; omega))
 refine ⟨⟨u, v, ⟨C, K⟩, R, rfl, ((h.o.set ⟨B, 0, none⟩ u (by show B < B + 1 + 1; omega)).set ⟨B, 1, none⟩ v (by show B < B + 1 + 1; omega)).lower (by omega), hC, hl, hK, hk, h.d.keep fun k hk => hkk k (by omega), ⟨g.os, g.tape, g.output, by have := g.size; simpa [World.setCell] using this, fun k hk hne => (hkk k (by omega)).trans (g.block k hk hne)⟩⟩, (h.r.set0 u).set1 v⟩
set_option maxRecDepth 100000 in
set_option maxHeartbeats 4000000 in
theorem playDesk_any (Dd : Nat) (R : List Int) (w : World) (h : DiceAt w Dd R) :
  Calls Try.prog 11 #[.pointer (some ⟨Dd, 0, none⟩)] w (DeskPl Dd w) := by
 have HD := Lib.hid h
 clear h
 go_enter Try.func11, Try.ntmps11
 go_wp2_with fail
 refine gen_world fun w1 hw1 => ?_
 have HS0 := Lib.hid (show PlS w w1 Dd w.heap.size R (.slice none 0 0) (.slice none 0 0) ⟨[], []⟩ from by rw [hw1]; exact PlS.start HD.out)
 clear hw1 HD
 generalize hbx : w.heap.size = B at *
 have HBX := Lib.hid hbx
 clear hbx
 go_loopw [4] (fun i wr => ∃ (k : Nat) (R : List Int) (u : Value) (C : List CouD), k ≤ 4 ∧ i = .int .i64 ((k : Int) + 1) ∧ C.length = k ∧ PlC C ∧ PlS w wr Dd B R u (.slice none 0 0) ⟨C, []⟩) (fun i _ => 6 - (intOf i).toNat)
 case atStart => exact ⟨0, R, _, [], Nat.zero_le _, rfl, rfl, fun j hj => absurd hj (by simp), HS0.out⟩
 case round =>
  obtain ⟨k, R1, u, C, hk, rfl, hcl, hpc, hS⟩ := hrel
  have HPC := Lib.hid hpc
  have HCL := Lib.hid hcl
  have HS := Lib.hid hS
  clear hpc hcl hS HS0
  go_wp2_with fail
  refine (next_any Dd R1 5 _ HS.out.d (by omega)).mono ?_
  rintro e w2 ⟨rfl, hd2, hg2⟩
  obtain ⟨m1, m2⟩ := nextV_range R1 5 (by omega)
  replace HS := Lib.hid (HS.out.dice hd2 hg2)
  generalize nextV R1 5 = q at *
  clear hd2 hg2
  by_cases hlt : (k : Int) + 1 ≤ q
  ·
   have k3 : k ≤ 3 := by omega
   go_wp2_with fail
   refine gen_calls fun w3 hw3 => ?_
   have hb3 : Below w2.heap.size w2 w3 := by rw [hw3]; exact below_alloc _ _
   have HL3 := Lib.hid (show ElP ES (fun b => b ≠ Dd) w3 (some ⟨w2.heap.size, 0, none⟩) 3 [bHr, bLegal, bHr] from by rw [hw3]; exact (lit_strs w2 [bHr, bLegal, bHr] 3 rfl (by decide)).mono fun b _ e => by have := HS.out.d.lt; omega)
   replace HS := Lib.hid (HS.out.below hb3)
   clear hw3 hb3
   refine (word_any Dd _ _ [bHr, bLegal, bHr] 3 w3 HS.out.d HL3.out (by decide) (by decide)).mono ?_
   rintro e w4 ⟨rfl, hd4, hg4⟩
   replace HS := Lib.hid (HS.out.dice hd4 hg4)
   have HS4 := Lib.hid HS.out
   have HO := Lib.hid (role_cases R1.tail)
   generalize wordV [bHr, bLegal, bHr] R1.tail = so at *
   clear hd4 hg4 HL3
   go_wp2_with fail
   refine gen_calls fun w5 hw5 => ?_
   have hb5 : Below w4.heap.size w4 w5 := by rw [hw5]; exact below_alloc _ _
   have HCC0 := Lib.hid (show CouB w5 w4.heap.size #[.int .i64 (((k : Int) + 1) * 2), .string so, .slice none 0 0] from by rw [hw5]; exact heap_alloc_new _ _)
   have HN := Lib.hid (show B + 1 + 1 ≤ w4.heap.size from by have := HS.out.x.lt; omega)
   have HG5 := Lib.hid (show w4.grownBy w5 (some Dd) from grown_of_below hb5)
   replace HS := Lib.hid (HS.out.below hb5)
   clear hw5 hb5
   generalize hcb : w4.heap.size = cb at *
   have HCB := Lib.hid hcb
   clear hcb
   refine (one_any Dd _ 3 w5 HS.out.d (by omega) (by omega)).mono ?_
   rintro e w6 ⟨rfl, hd6, hg6⟩
   have HCC := Lib.hid (show CouB w6 cb #[.int .i64 (((k : Int) + 1) * 2), .string so, .slice none 0 0] from (hg6.block cb (blk_ltE HCC0.out) (fun e => by injection e with e; have := HN.out; have := HS.out.lo; omega)).trans HCC0.out)
   replace HS := Lib.hid (HS.out.dice hd6 hg6)
   have HG6 := Lib.hid (grown_trans HG5.out hg6)
   clear hd6 hg6 HCC0 HG5
   cases oneV 3 R1.tail.tail with
   | false =>
    obtain ⟨X, q1, q2⟩ := HS.out.o.cs
    obtain ⟨Cx, cx, rfl, -⟩ := q1.toP
    have HQ1 := Lib.hid q1
    have HQ2 := Lib.hid q2
    have hxl : X.length ≤ 1000 := by have e1 := q2.len; have e2 : C.length = k := HCL.out; have e3 : X.length = C.length := e1; omega
    have d0 := HS.out.x.c0
    have dl := HS.out.x.lt
    have t0 : w6.cell? ⟨cb, 0, none⟩ = some (.int .i64 (((k : Int) + 1) * 2)) := by rw [cell_of_row _ _ 0 _ _ (0, 0) HCC.out]; rfl
    have t1 : w6.cell? ⟨cb, 1, none⟩ = some (.string so) := by rw [cell_of_row _ _ 1 _ _ (0, 0) HCC.out]; rfl
    have t2 : w6.cell? ⟨cb, 2, none⟩ = some (.slice none 0 0) := by rw [cell_of_row _ _ 2 _ _ (0, 0) HCC.out]; rfl
    have tl := blk_ltE HCC.out
    have hle : B + 1 + 1 ≤ w6.heap.size := by omega
    clear q1 q2
    go_wp2_with (first | (at_builtin; refine app_elL EC Try.underlying27 info_cou rfl rfl (.tmp 29) (.tmp 31) rfl (base := B + 1 + 1) (w := w6) (v := .slice Cx X.length cx) (S := X) ⟨((k : Int) + 1) * 2, so, none, 0, 0⟩ rfl rfl HQ1.out w6.heap.size rfl rfl (by omega) (by omega) hle ?_; intro g cap w9 hown9 hg9 hor9; have dc9 := (HS.out.up hg9 (fun b e => (World.ownsRow.lt HQ1.out b e).1) 0 undef).2.2.2.2; have d9 := dc9.c0; have f9 := dc9.fz 0; have l9 := dc9.lt; have HO9 := Lib.hid hown9; have HG9 := Lib.hid hg9; have HR9 := Lib.hid (show (Value.slice Cx X.length cx).ownBlock = some g ∨ w6.heap.size ≤ g from hor9.imp id (by omega)); clear hown9 hg9 hor9 dc9 d0 dl) | fail)
    go_roundw
    case rel => exact ⟨k + 1, _, _, C ++ [⟨((k : Int) + 1) * 2, so, []⟩], by omega, by go_num, by simp; exact HCL.out, HPC.out.snoc ⟨by rw [HCL.out]; show ((k : Int) + 1) * 2 = _; omega, HO.out, .inl rfl⟩, HS.out.more HQ1.out HQ2.out ⟨rfl, rfl, rfl, ElP.nil _ _ _⟩ HO9.out HG9.out HR9.out⟩
    case measure => simp [intOf]; omega
   | true =>
    go_wp2_with fail
    refine gen_calls fun w7 hw7 => ?_
    have hb7 : Below w6.heap.size w6 w7 := by rw [hw7]; exact below_alloc _ _
    have HL7 := Lib.hid (show ElP ES (fun b => b ≠ Dd) w7 (some ⟨w6.heap.size, 0, none⟩) 2 [bAnn, bBob] from by rw [hw7]; exact (lit_strs w6 [bAnn, bBob] 2 rfl (by decide)).mono fun b _ e => by have := HS.out.d.lt; omega)
    replace HS := Lib.hid (HS.out.below hb7)
    replace HCC := Lib.hid (HCC.out.below hb7)
    have HG7 := Lib.hid (grown_trans HG6.out (grown_of_below hb7))
    clear hw7 hb7 HG6
    refine (word_any Dd _ _ [bAnn, bBob] 2 w7 HS.out.d HL7.out (by decide) (by decide)).mono ?_
    rintro e w8 ⟨rfl, hd8, hg8⟩
    replace HCC := Lib.hid (show CouB w8 cb #[.int .i64 (((k : Int) + 1) * 2), .string so, .slice none 0 0] from (hg8.block cb (blk_ltE HCC.out) (fun e => by injection e with e; have := HN.out; have := HS.out.lo; omega)).trans HCC.out)
    replace HS := Lib.hid (HS.out.dice hd8 hg8)
    have HW := Lib.hid (who_cases R1.tail.tail.tail)
    generalize wordV [bAnn, bBob] R1.tail.tail.tail = sw at *
    have HG8 := Lib.hid (grown_trans HG7.out hg8)
    clear hd8 hg8 HL7 HG7
    obtain ⟨X, q1, q2⟩ := HS.out.o.cs
    obtain ⟨Cx, cx, rfl, -⟩ := q1.toP
    have hxl : X.length ≤ 1000 := by have e1 := q2.len; have e2 : C.length = k := HCL.out; have e3 : X.length = C.length := e1; omega
    have d0 := HS.out.x.c0
    have dl := HS.out.x.lt
    have t0 : w8.cell? ⟨cb, 0, none⟩ = some (.int .i64 (((k : Int) + 1) * 2)) := by rw [cell_of_row _ _ 0 _ _ (0, 0) HCC.out]; rfl
    have t1 : w8.cell? ⟨cb, 1, none⟩ = some (.string so) := by rw [cell_of_row _ _ 1 _ _ (0, 0) HCC.out]; rfl
    have t2 : w8.cell? ⟨cb, 2, none⟩ = some (.slice none 0 0) := by rw [cell_of_row _ _ 2 _ _ (0, 0) HCC.out]; rfl
    have tf : w8.frozen? ⟨cb, 2, none⟩ = false := by have h := HCC.out; unfold CouB at h; simp [World.frozen?, h]
    have tl := blk_ltE HCC.out
    have lo' : ¬ B + 1 = cb := by have := HN.out; omega
    clear q1 q2
    obtain ⟨hs9, hz9, hl9⟩ := pl_store HS4.out HG8.out HS.out.d HCB.out tl sw (.slice (some ⟨w8.heap.size, 0, none⟩) 1 1)
    obtain ⟨Y, q1, q2⟩ := hs9.o.cs
    have hyl : Y.length = X.length := by have e1 := q1.toP; obtain ⟨A', c', e2, -⟩ := e1; injection e2 with e2 e3 e4; exact e3.symm
    have hyl2 : Y.length ≤ 1000 := by omega
    clear hyl
    have HQ1 := Lib.hid q1
    have HQ2 := Lib.hid q2
    have HS9 := Lib.hid hs9
    have HZ9 := Lib.hid hz9
    have HL9 := Lib.hid hl9
    have hle : B + 1 + 1 ≤ w8.heap.size + 1 := by omega
    clear q1 q2 hs9 hz9 hl9
    go_wp2_with (first | (at_builtin; refine app_elL EC Try.underlying27 info_cou rfl rfl (.tmp 29) (.tmp 31) rfl (base := B + 1 + 1) (w := ((w8.setCell ⟨cb, 2, none⟩ (.slice (some ⟨w8.heap.size, 0, none⟩) 1 1)).alloc (.cells #[.string sw] 9))) (v := .slice Cx X.length cx) (S := Y) ⟨((k : Int) + 1) * 2, so, some ⟨w8.heap.size, 0, none⟩, 1, 1⟩ rfl rfl HQ1.out (w8.heap.size + 1) HZ9.out rfl (by omega) (by omega) (by rw [HZ9.out]; exact hle) ?_; intro g cap w9 hown9 hg9 hor9; have dc9 := (HS9.out.up hg9 (fun b e => (World.ownsRow.lt HQ1.out b e).1) 0 undef).2.2.2.2; have d9 := dc9.c0; have f9 := dc9.fz 0; have l9 := dc9.lt; have HO9 := Lib.hid hown9; have HG9 := Lib.hid hg9; have HR9 := Lib.hid (show (Value.slice Cx X.length cx).ownBlock = some g ∨ (((w8.setCell ⟨cb, 2, none⟩ (.slice (some ⟨w8.heap.size, 0, none⟩) 1 1)).alloc (.cells #[.string sw] 9)) : World).heap.size ≤ g from hor9.imp id (by rw [HZ9.out]; omega)); clear hown9 hg9 hor9 dc9 d0 dl) | fail)
    go_roundw
    case rel => exact ⟨k + 1, _, _, C ++ [⟨((k : Int) + 1) * 2, so, [sw]⟩], by omega, by go_num, by simp; exact HCL.out, HPC.out.snoc ⟨by rw [HCL.out]; show ((k : Int) + 1) * 2 = _; omega, HO.out, .inr (HW.out.imp (by rintro rfl; rfl) (by rintro rfl; rfl))⟩, HS9.out.more (x := ⟨((k : Int) + 1) * 2, so, some ⟨w8.heap.size, 0, none⟩, 1, 1⟩) (d := ⟨((k : Int) + 1) * 2, so, [sw]⟩) HQ1.out HQ2.out ⟨rfl, rfl, rfl, HL9.out⟩ HO9.out HG9.out HR9.out⟩
    case measure => simp [intOf]; omega
  ·
   have C4 : C.length ≤ 4 := by have := HCL.out; omega
   go_wp2_with fail
   clear m1 m2 hlt
   refine (next_any Dd _ 7 _ HS.out.d (by omega)).mono ?_
   rintro e w3 ⟨rfl, hd3, hg3⟩
   obtain ⟨p1, p2⟩ := nextV_range R1.tail 7 (by omega)
   replace HS := Lib.hid (HS.out.dice hd3 hg3)
   generalize nextV R1.tail 7 = qn at *
   obtain ⟨n0, rfl⟩ := Int.eq_ofNat_of_zero_le p1
   have n6 : n0 ≤ 6 := by omega
   obtain ⟨uA, uc, vB, vb, eu, -⟩ := HS.out.o.forms
   have eu : u = .slice uA C.length uc := eu
   subst eu
   clear hd3 hg3 p1 p2
   go_wp2_with fail
   go_loopw [6, 7] (fun t i wr => ∃ (tm k : Nat) (R : List Int) (v : Value) (K : List CaseD), t = .int .i64 tm ∧ i = .int .i64 k ∧ k ≤ 6 ∧ tm + 2 * k ≤ 12 ∧ K.length + k ≤ 6 ∧ PlK K ∧ PlS w wr Dd B R (.slice uA C.length uc) v ⟨C, K⟩) (fun _ i _ => (intOf i).toNat)
   case atStart => exact ⟨0, n0, _, _, [], rfl, rfl, n6, by omega, by simp; omega, fun x hx => (by cases hx), HS.out⟩
   case round =>
    clear HS
    obtain ⟨tm, k, R2, v, K, rfl, rfl, hk6, htm, hkl, hpk, hS⟩ := hrel
    obtain ⟨uA2, uc2, vA, vc, -, ev⟩ := hS.o.forms
    have ev : v = .slice vA K.length vc := ev
    subst ev
    have HS := Lib.hid hS
    have HPK := Lib.hid hpk
    have d0 := hS.x.c0
    have d1 := hS.x.c1
    have dl := hS.x.lt
    clear hS hpk
    by_cases hk0 : 0 < k
    ·
     have g1 : (0 : Int) < (k : Int) := by omega
     have g1d : decide ((0 : Int) < (k : Int)) = true := decide_eq_true g1
     by_cases hc0 : 0 < C.length
     ·
      have g2 : (0 : Int) < (C.length : Int) := by omega
      have g2d : decide ((0 : Int) < (C.length : Int)) = true := decide_eq_true g2
      go_wp2_with fail
      refine (next_any Dd R2 3 _ HS.out.d (by omega)).mono ?_
      rintro e w3 ⟨rfl, hd3, hg3⟩
      obtain ⟨p1, p2⟩ := nextV_range R2 3 (by omega)
      replace HS := Lib.hid (HS.out.dice hd3 hg3)
      generalize nextV R2 3 = qt at *
      obtain ⟨dt, rfl⟩ := Int.eq_ofNat_of_zero_le p1
      clear hd3 hg3 p1 d0 d1 dl
      generalize R2.tail = Rq at *
      obtain ⟨z1, z2⟩ := nextV_range Rq C.length (by omega)
      obtain ⟨q, hq⟩ : ∃ q : Nat, nextV Rq C.length = q := Int.eq_ofNat_of_zero_le z1
      have hqC : q < C.length := by omega
      obtain ⟨ub, uo, x, rfl, hub, hub2, x0, x1, x2, hx⟩ := HS.out.cou.elem hqC
      obtain ⟨cid, co, xA, xn, xc⟩ := x
      have HCO := Lib.hid (show co.size ≤ 1000 from by have e : co = (cAt C q).o := hx.o; rcases (HPC.out q hqC).o with f | f <;> rw [e, f] <;> decide)
      have q0 : (0 : Int) ≤ (q : Int) := by omega
      have q1 : (q : Int) < (C.length : Int) := by omega
      have HQ := Lib.hid hq
      have HQB := Lib.hid (show (C.length : Int) ≤ 4611686018427387904 by omega)
      have HLT := Lib.hid (show B + 1 < w3.heap.size ∧ B + 1 ≠ Dd from ⟨HS.out.x.lt, by have := HS.out.lo; omega⟩)
      have HUB := Lib.hid (show ub < w3.heap.size ∧ ub ≠ Dd from ⟨hub, by have := HS.out.lo; omega⟩)
      have HDL := Lib.hid (show Dd < w3.heap.size from HS.out.d.lt)
      have HD0 := Lib.hid HS.out.x.c0
      have X0 := Lib.hid x0
      have X1 := Lib.hid x1
      have X2 := Lib.hid x2
      have HKL := Lib.hid (show K.length ≤ 1000 by omega)
      clear hx hq z1 z2 x0 x1 x2 hub hub2 HCL
      go_upto_region 14 with fail
      refine wp_region_J2 (GI (R := fun _ _ => True) [Pr.eq (.pointer (some ⟨B + 1, 0, none⟩)), Pr.eq (.slice (some ⟨ub, uo, none⟩) C.length uc), Pr.eq (.pointer (some ⟨Dd, 0, none⟩)), Pr.eq (.pointer (some ⟨B + 1, 0, none⟩)), Pr.eq (.slice (some ⟨ub, uo, none⟩) C.length uc), Pr.eq (.int .i64 (C.length : Int)), Pr.eq (.int .i64 (q : Int)), Pr.eq (.pointer (some ⟨ub, uo + q * 3, none⟩)), Pr.eq (.agg #[.int .i64 cid, .string co, .slice xA xn xc]), Pr.any, Pr.any] (PcJ w3 Dd Rq #[.int .i64 cid, .string co, .slice xA xn xc])) (by kernel_rfl) (by kernel_rfl) (by kernel_rfl) ?_ ?_ ?_
      case refine_1 => exact fun V => GI.start (PcJ.start HS.out.d _)
      case refine_2 =>
       refine .cons (fun V Ld a W hLi hpre hR hI KK hK => ?_) ?_
       ·
        have o3 := (hR.old 3 (by kernel_rfl)).trans (show _ = Value.pointer (some ⟨B + 1, 0, none⟩) from rfl)
        exact J_fieldAddr rfl _ (.tmp 3) 0 rfl (by rw [o3]; go_simp) (hK _ _ (hI.put0 0 rfl rfl (hI.st.mv _ (by decide))))
       refine .cons (fun V Ld a W hLi hpre hR hI KK hK => ?_) ?_
       ·
        have f0 := hI.ef hR hpre 0 rfl rfl rfl (by kernel_rfl)
        have d0 := (hI.st.cell 0 HLT.out.1 HLT.out.2).trans HD0.out
        exact J_load rfl _ (.tmp 50) rfl (by rw [f0]; go_simp) (hK _ _ (hI.put0 1 rfl rfl (hI.st.mv _ (by decide))))
       refine .cons (fun V Ld a W hLi hpre hR hI KK hK => ?_) ?_
       ·
        have o0 := (hR.old 0 (by kernel_rfl)).trans (show _ = Value.pointer (some ⟨Dd, 0, none⟩) from rfl)
        exact G_move rfl (.tmp 0) rfl o0 (hK _ _ (hI.put0 2 rfl rfl (hI.st.mv _ (by decide))))
       refine .cons (fun V Ld a W hLi hpre hR hI KK hK => ?_) ?_
       ·
        have o3 := (hR.old 3 (by kernel_rfl)).trans (show _ = Value.pointer (some ⟨B + 1, 0, none⟩) from rfl)
        exact J_fieldAddr rfl _ (.tmp 3) 0 rfl (by rw [o3]; go_simp) (hK _ _ (hI.put0 3 rfl rfl (hI.st.mv _ (by decide))))
       refine .cons (fun V Ld a W hLi hpre hR hI KK hK => ?_) ?_
       ·
        have f3 := hI.ef hR hpre 3 rfl rfl rfl (by kernel_rfl)
        have d0 := (hI.st.cell 0 HLT.out.1 HLT.out.2).trans HD0.out
        exact J_load rfl _ (.tmp 53) rfl (by rw [f3]; go_simp) (hK _ _ (hI.put0 4 rfl rfl (hI.st.mv _ (by decide))))
       refine .cons (fun V Ld a W hLi hpre hR hI KK hK => ?_) ?_
       ·
        have f4 := hI.ef hR hpre 4 rfl rfl rfl (by kernel_rfl)
        exact G_len rfl (.tmp 54) _ rfl (by rw [f4]; go_simp) (hK _ _ (hI.put0 5 rfl rfl (hI.st.mv _ (by decide))))
       refine .cons (fun V Ld a W hLi hpre hR hI KK hK => ?_) ?_
       ·
        have f2 := hI.ef hR hpre 2 rfl rfl rfl (by kernel_rfl)
        have f5 := hI.ef hR hpre 5 rfl rfl rfl (by kernel_rfl)
        refine J_call rfl _ _ _ rfl enter_nxt (by simp only [List.map_toArray, List.map_cons, List.map_nil, f2, f5]) (next_any Dd Rq C.length W (hI.st.d0 hLi) HQB.out) ?_
        rintro e w' ⟨rfl, hd, hg⟩
        exact ⟨_, rfl, hK _ _ (hI.put trivial 6 rfl (congrArg (Value.int .i64) HQ.out) (hI.st.nx hLi HDL.out hd hg))⟩
       refine .cons (fun V Ld a W hLi hpre hR hI KK hK => ?_) ?_
       ·
        have f1 := hI.ef hR hpre 1 rfl rfl rfl (by kernel_rfl)
        have f6 := hI.ef hR hpre 6 rfl rfl rfl (by kernel_rfl)
        exact J_indexAddr rfl _ (.tmp 51) (.tmp 56) rfl (by rw [f1, f6]; go_simp <;> (intro h; omega)) (hK _ _ (hI.put0 7 rfl rfl (hI.st.mv _ (by decide))))
       refine .cons (fun V Ld a W hLi hpre hR hI KK hK => ?_) ?_
       ·
        have f7 := hI.ef hR hpre 7 rfl rfl rfl (by kernel_rfl)
        have x0 := (hI.st.cell (uo + q * 3) HUB.out.1 HUB.out.2).trans X0.out
        have x1 := (hI.st.cell (uo + q * 3 + 1) HUB.out.1 HUB.out.2).trans X1.out
        have x2 := (hI.st.cell (uo + q * 3 + 2) HUB.out.1 HUB.out.2).trans X2.out
        exact J_load rfl _ (.tmp 57) rfl (by rw [f7]; go_simp) (hK _ _ (hI.put0 8 rfl rfl (hI.st.mv _ (by decide))))
       refine .cons (fun V Ld a W hLi hpre hR hI KK hK => ?_) ?_
       ·
        exact J_alloc rfl _ rfl (al_cou W) (hK _ _ (hI.put trivial 9 rfl trivial (hI.st.oa hLi)))
       refine .cons (fun V Ld a W hLi hpre hR hI KK hK => ?_) trivial
       ·
        have p9 := pm hpre 9 (by kernel_rfl)
        have f8 := hI.ef hR hpre 8 rfl rfl rfl (by kernel_rfl)
        obtain ⟨nb, e9, hc, hn⟩ := hI.st.os p9 hLi HDL.out
        obtain ⟨w', t1, t2, t3, t4, t5⟩ := st_cou hc cid co xA xn xc
        exact J_store rfl _ (.tmp 8) (.tmp 58) rfl (by rw [hR.ev 9 rfl rfl p9, f8, e9]; exact t1) (hK _ _ (hI.put trivial 10 rfl trivial (hn w' _ t2 t5)))
      case refine_3 =>
       intro V Ld w9 hLd hI
       have hg9 := hI.st.g
       have hd9 := hI.st.d1 (hLd 6 (by decide))
       obtain ⟨nb, e9, hnb, hcb⟩ := hI.st.a1 (hLd 10 (by decide))
       clear hI hLd
       simp only [finL, putL, Act.put, Nat.reduceAdd]
       rw [e9]
       clear e9
       generalize V 0 = v0, V 1 = v1
       generalize V 2 = v2, V 3 = v3
       generalize V 4 = v4, V 5 = v5
       generalize V 6 = v6, V 7 = v7, V 8 = v8
       clear V
       simp only [List.setIfInBounds_toArray, List.set_cons_succ, List.set_cons_zero]
       have HNB := Lib.hid (show nb ≠ Dd from by have := HDL.out; omega)
       have HCB := Lib.hid hcb
       replace HS := Lib.hid (HS.out.dice hd9 hg9)
       clear hd9 hg9 hcb hnb HD0 HLT HUB X0 X1 X2
       have hc9 := HCB.out
       generalize hw10 : w9 = w10 at *
       clear hw10
       go_upto_region 15 with fail
       refine wp_region_J2 (GI (R := fun _ _ => True) [Pr.eq (.pointer (some ⟨B + 1, 1, none⟩)), Pr.eq (.slice vA K.length vc), Pr.eq (.pointer (some ⟨nb, 0, none⟩)), Pr.eq (.int .i64 cid), Pr.eq (.pointer (some ⟨Dd, 0, none⟩)), Pr.any, strPr, Pr.eq (.pointer (some ⟨nb, 1, none⟩)), Pr.eq (.string co), Pr.eq (.int .i64 ((tm : Int) + (dt : Int))), Pr.eq (.pointer (some ⟨Dd, 0, none⟩)), blnPr, casPr, Pr.any, Pr.any, Pr.eq (.pointer (some ⟨B + 1, 1, none⟩)), Pr.any] (PkJ w Dd B nb #[.int .i64 cid, .string co, .slice xA xn xc] (.slice (some ⟨ub, uo, none⟩) C.length uc) (.slice vA K.length vc) C K)) (by kernel_rfl) (by kernel_rfl) (by kernel_rfl) ?_ ?_ ?_
       case refine_1 => exact fun V => GI.start (PkJ.start HS.out hc9 _)
       case refine_2 =>
        refine .cons (fun V Ld a W hLi hpre hR hI KK hK => ?_) ?_
        ·
         have o3 := (hR.old 3 (by kernel_rfl)).trans (show _ = Value.pointer (some ⟨B + 1, 0, none⟩) from rfl)
         exact J_fieldAddr rfl _ (.tmp 3) 1 rfl (by rw [o3]; go_simp) (hK _ _ (hI.put0 0 rfl rfl (hI.st.mv _ (by decide))))
        refine .cons (fun V Ld a W hLi hpre hR hI KK hK => ?_) ?_
        ·
         have f0 := hI.ef hR hpre 0 rfl rfl rfl (by kernel_rfl)
         obtain ⟨⟨R2, hp1⟩, -⟩ := hI.st.p (hI.st.e14 (.inl rfl) hLi)
         have c1 := hp1.x.c1
         exact J_load rfl _ (.tmp 59) rfl (by rw [f0]; go_simp) (hK _ _ (hI.put0 1 rfl rfl (hI.st.mv _ (by decide))))
        refine .cons (fun V Ld a W hLi hpre hR hI KK hK => ?_) ?_
        ·
         have o8 := (hR.old 8 (by kernel_rfl)).trans (show _ = Value.pointer (some ⟨nb, 0, none⟩) from rfl)
         exact J_fieldAddr rfl _ (.tmp 8) 0 rfl (by rw [o8]; go_simp) (hK _ _ (hI.put0 2 rfl rfl (hI.st.mv _ (by decide))))
        refine .cons (fun V Ld a W hLi hpre hR hI KK hK => ?_) ?_
        ·
         have f2 := hI.ef hR hpre 2 rfl rfl rfl (by kernel_rfl)
         obtain ⟨-, hc3⟩ := hI.st.p (hI.st.e14 (.inr (.inl rfl)) hLi)
         have x0 : W.cell? ⟨nb, 0, none⟩ = some (.int .i64 cid) := by rw [cell_of_row _ _ 0 _ _ (0, 0) hc3]; rfl
         exact J_load rfl _ (.tmp 61) rfl (by rw [f2]; go_simp) (hK _ _ (hI.put0 3 rfl rfl (hI.st.mv _ (by decide))))
        refine .cons (fun V Ld a W hLi hpre hR hI KK hK => ?_) ?_
        ·
         have o0 := (hR.old 0 (by kernel_rfl)).trans (show _ = Value.pointer (some ⟨Dd, 0, none⟩) from rfl)
         exact G_move rfl (.tmp 0) rfl o0 (hK _ _ (hI.put0 4 rfl rfl (hI.st.mv _ (by decide))))
        refine .cons (fun V Ld a W hLi hpre hR hI KK hK => ?_) ?_
        ·
         have n14 := ((hI.st.no (.inl rfl) hLi).2 (by decide)).1
         obtain ⟨⟨R2, hp1⟩, -⟩ := hI.st.p n14
         have hlt := hp1.d.lt
         exact J_buildSlice rfl _ 3 _ rfl (by simp only [List.map_toArray, List.map_cons, List.map_nil]; exact bs_abc W) (hK _ _ (hI.put trivial 5 rfl trivial (hI.st.tn 5 (.inl rfl) (fun e => absurd e (by decide)) hLi HNB.out (fun R h => ⟨R, h.below (below_alloc _ _)⟩) (Kpt.below (below_alloc _ _)) (fun _ => ⟨_, _, rfl, (lit_strs W [bAnn, bBob, bCid] 3 rfl (by decide)).mono fun b _ e => by omega⟩))))
        refine .cons (fun V Ld a W hLi hpre hR hI KK hK => ?_) ?_
        ·
         have f4 := hI.ef hR hpre 4 rfl rfl rfl (by kernel_rfl)
         have p5 := pm hpre 5 (by kernel_rfl)
         have n14 := ((hI.st.no (.inr (.inl rfl)) hLi).2 (by decide)).1
         obtain ⟨⟨R2, hp1⟩, -⟩ := hI.st.p n14
         obtain ⟨A5, c5, e5, h5⟩ := hI.st.p5 p5 n14
         refine J_call rfl _ _ _ rfl enter_word (by simp only [List.map_toArray, List.map_cons, List.map_nil, f4, hR.ev 5 rfl rfl p5, e5]; rfl) (word_any Dd R2 A5 [bAnn, bBob, bCid] c5 W hp1.d h5 (by decide) (by decide)) ?_
         rintro e w' ⟨rfl, hd, hg⟩
         exact ⟨_, rfl, hK _ _ (hI.put trivial 6 rfl ⟨_, rfl, abc_small _⟩ (hI.st.tn 6 (.inr (.inl rfl)) (fun _ => p5) hLi HNB.out (fun R h => ⟨_, h.dice hd hg⟩) (Kpt.grown hg (fun b hb e => hb (by injection e with e; exact e.symm))) (fun e => absurd e (by decide))))⟩
        refine .cons (fun V Ld a W hLi hpre hR hI KK hK => ?_) ?_
        ·
         have o8 := (hR.old 8 (by kernel_rfl)).trans (show _ = Value.pointer (some ⟨nb, 0, none⟩) from rfl)
         exact J_fieldAddr rfl _ (.tmp 8) 1 rfl (by rw [o8]; go_simp) (hK _ _ (hI.put0 7 rfl rfl (hI.st.mv _ (by decide))))
        refine .cons (fun V Ld a W hLi hpre hR hI KK hK => ?_) ?_
        ·
         have f7 := hI.ef hR hpre 7 rfl rfl rfl (by kernel_rfl)
         obtain ⟨-, hc3⟩ := hI.st.p (hI.st.e14 (.inr (.inr rfl)) hLi)
         have x1 : W.cell? ⟨nb, 1, none⟩ = some (.string co) := by rw [cell_of_row _ _ 1 _ _ (0, 0) hc3]; rfl
         exact J_load rfl _ (.tmp 66) rfl (by rw [f7]; go_simp) (hK _ _ (hI.put0 8 rfl rfl (hI.st.mv _ (by decide))))
        refine .cons (fun V Ld a W hLi hpre hR hI KK hK => ?_) ?_
        ·
         have o6 := (hR.old 6 (by kernel_rfl)).trans (show _ = Value.int .i64 ((tm : Int) + (dt : Int)) from rfl)
         exact G_move rfl (.tmp 6) rfl o6 (hK _ _ (hI.put0 9 rfl rfl (hI.st.mv _ (by decide))))
        refine .cons (fun V Ld a W hLi hpre hR hI KK hK => ?_) ?_
        ·
         have o0 := (hR.old 0 (by kernel_rfl)).trans (show _ = Value.pointer (some ⟨Dd, 0, none⟩) from rfl)
         exact G_move rfl (.tmp 0) rfl o0 (hK _ _ (hI.put0 10 rfl rfl (hI.st.mv _ (by decide))))
        refine .cons (fun V Ld a W hLi hpre hR hI KK hK => ?_) ?_
        ·
         have f10 := hI.ef hR hpre 10 rfl rfl rfl (by kernel_rfl)
         have n14 := ((hI.st.no (.inr (.inr (.inl rfl))) hLi).2 (by decide)).1
         obtain ⟨⟨R2, hp1⟩, -⟩ := hI.st.p n14
         refine J_call rfl _ _ _ rfl enter_one (by simp only [List.map_toArray, List.map_cons, List.map_nil, f10]; rfl) (one_any Dd R2 3 W hp1.d (by decide) (by decide)) ?_
         rintro e w' ⟨rfl, hd, hg⟩
         exact ⟨_, rfl, hK _ _ (hI.put trivial 11 rfl ⟨_, rfl⟩ (hI.st.tn 11 (.inr (.inr rfl)) (fun e => absurd e (by decide)) hLi HNB.out (fun R h => ⟨_, h.dice hd hg⟩) (Kpt.grown hg (fun b hb e => hb (by injection e with e; exact e.symm))) (fun e => absurd e (by decide))))⟩
        refine .cons (fun V Ld a W hLi hpre hR hI KK hK => ?_) ?_
        ·
         have p3 := pm hpre 3 (by kernel_rfl)
         have f3 := hI.ef hR hpre 3 rfl rfl rfl (by kernel_rfl)
         have p6 := pm hpre 6 (by kernel_rfl)
         obtain ⟨s6, e6, h6⟩ := hI.val 6 _ rfl p6
         have f6 := (hR.ev 6 rfl rfl p6).trans e6
         have p8 := pm hpre 8 (by kernel_rfl)
         have f8 := hI.ef hR hpre 8 rfl rfl rfl (by kernel_rfl)
         have f9 := hI.ef hR hpre 9 rfl rfl rfl (by kernel_rfl)
         have p11 := pm hpre 11 (by kernel_rfl)
         obtain ⟨b11, e11⟩ := hI.val 11 _ rfl p11
         have f11 := (hR.ev 11 rfl rfl p11).trans e11
         exact J_build rfl _ _ rfl (by simp only [List.map_toArray, List.map_cons, List.map_nil, f3, f6, f8, f9, f11]; exact bd_case W cid s6 co ((tm : Int) + (dt : Int)) b11) (hK _ _ (hI.put trivial 12 rfl ⟨⟨cid, s6, co, (tm : Int) + (dt : Int), b11⟩, rfl, h6, HCO.out⟩ (hI.st.o12 p6 p11 p3 p8 hLi)))
        refine .cons (fun V Ld a W hLi hpre hR hI KK hK => ?_) ?_
        ·
         have p12 := pm hpre 12 (by kernel_rfl)
         obtain ⟨x12, e12, h12⟩ := hI.val 12 _ rfl p12
         have f12 := (hR.ev 12 rfl rfl p12).trans e12
         exact J_buildSlice rfl _ 1 _ rfl (by simp only [List.map_toArray, List.map_cons, List.map_nil, f12]; exact bs_case W x12) (hK _ _ (hI.put trivial 13 rfl trivial (hI.st.o13 p12 hLi h12)))
        refine .cons (fun V Ld a W hLi hpre hR hI KK hK => ?_) ?_
        ·
         have p1 := pm hpre 1 (by kernel_rfl)
         have f1 := hI.ef hR hpre 1 rfl rfl rfl (by kernel_rfl)
         have p13 := pm hpre 13 (by kernel_rfl)
         obtain ⟨y, v', W', e13, hr, hn⟩ := hI.st.o14 p13 p1 hLi HKL.out
         exact G_bapp rfl (.tmp 60) (.tmp 72) _ rfl (by rw [f1, hR.ev 13 rfl rfl p13, e13]; exact hr) (hK _ _ (hI.put trivial 14 rfl trivial hn))
        refine .cons (fun V Ld a W hLi hpre hR hI KK hK => ?_) ?_
        ·
         have o3 := (hR.old 3 (by kernel_rfl)).trans (show _ = Value.pointer (some ⟨B + 1, 0, none⟩) from rfl)
         exact J_fieldAddr rfl _ (.tmp 3) 1 rfl (by rw [o3]; go_simp) (hK _ _ (hI.put0 15 rfl rfl (hI.st.mv _ (by decide))))
        refine .cons (fun V Ld a W hLi hpre hR hI KK hK => ?_) trivial
        ·
         have f15 := hI.ef hR hpre 15 rfl rfl rfl (by kernel_rfl)
         have p14 := pm hpre 14 (by kernel_rfl)
         obtain ⟨g, n, cap, e14, hd, hn⟩ := hI.st.o16 p14 hLi
         exact J_store rfl _ (.tmp 74) (.tmp 73) rfl (by rw [f15, hR.ev 14 rfl rfl p14, e14]; exact st_ks hd _ _ _) (hK _ _ (hI.put trivial 16 rfl trivial (hn _)))
       case refine_3 =>
        intro V Ld w11 hLd hI
        obtain ⟨R9, x9, hx9, hp9⟩ := hI.st.p16 (hLd 16 (by decide))
        clear hI hLd
        simp only [finL, putL, Act.put, Nat.reduceAdd]
        generalize V 0 = v0, V 1 = v1
        generalize V 2 = v2, V 3 = v3
        generalize V 4 = v4, V 5 = v5
        generalize V 6 = v6, V 7 = v7
        generalize V 8 = v8, V 9 = v9
        generalize V 10 = v10, V 11 = v11
        generalize V 12 = v12, V 13 = v13
        generalize V 14 = v14 at hp9 ⊢
        generalize V 15 = v15
        clear V
        simp only [List.setIfInBounds_toArray, List.set_cons_succ, List.set_cons_zero]
        clear hc9
        have HPK9 := Lib.hid (show PlK (K ++ [x9]) from fun y hy => by
         rcases List.mem_append.1 hy with h | h
         ·
          exact HPK.out y h
         ·
          rw [List.mem_singleton] at h; subst h; exact hx9)
        have HS9 := Lib.hid hp9
        clear hp9 hx9
        go_wp2_with fail
        go_roundw
        case rel => exact ⟨tm + dt, k - 1, R9, _, K ++ [x9], by go_num, by go_num, by omega, by omega, by simp; omega, HPK9.out, HS9.out⟩
        case measure => simp [intOf]; omega
     ·
      have g2 : ¬ (0 : Int) < (C.length : Int) := by omega
      have g2d : decide ((0 : Int) < (C.length : Int)) = false := decide_eq_false g2
      have HE := Lib.hid (HS.out.fin HPC.out C4 HPK.out (by omega))
      have r0 := HS.out.r.c0
      have r1 := HS.out.r.c1
      have rf0 := HS.out.r.fz 0
      have rf1 := HS.out.r.fz 1
      have rl := HS.out.r.lt
      go_wp2_with fail
      exact bodyPost_ret (results_desk rfl _ _ B rfl HE.out.2) rfl HE.out.1
    ·
     have g1 : ¬ (0 : Int) < (k : Int) := by omega
     have g1d : decide ((0 : Int) < (k : Int)) = false := decide_eq_false g1
     have HE := Lib.hid (HS.out.fin HPC.out C4 HPK.out (by omega))
     have r0 := HS.out.r.c0
     have r1 := HS.out.r.c1
     have rf0 := HS.out.r.fz 0
     have rf1 := HS.out.r.fz 1
     have rl := HS.out.r.lt
     go_wp2_with fail
     exact bodyPost_ret (results_desk rfl _ _ B rfl HE.out.2) rfl HE.out.1
end Go.Proofs.Ytjckpammcgeloaa
namespace Go.Proofs.Ytjckpammcgeloaa
open Go.RowKit

/-- Dice, and a desk in a variable; what it refers to lies elsewhere. -/
structure LwS (w W : World) (Dd n4 : Nat) (R : List Int) (u v : Value) (D : DeskD) : Prop where
  b : Below w.heap.size w W
  lo : w.heap.size ≤ Dd
  lt : Dd < n4
  d : DiceAt W Dd R
  x : DeskCell W n4 u v
  o : DeskR (fun b => b ≠ n4 ∧ b ≠ Dd) W (.agg #[u, v]) D
section
variable {w W W' : World} {Dd n4 : Nat} {R R' : List Int} {u v : Value} {D D' : DeskD}
theorem LwS.below (h : LwS w W Dd n4 R u v D) (hb : Below W.heap.size W W') : LwS w W' Dd n4 R u v D := ⟨below_trans h.b hb, h.lo, h.lt, h.d.below hb, h.x.below hb, h.o.below hb⟩
theorem LwS.dice (h : LwS w W Dd n4 R u v D) (hd : DiceAt W' Dd R') (hg : W.grownBy W' (some Dd)) : LwS w W' Dd n4 R' u v D := by
  have hl := h.lt
  exact ⟨h.b.trans (grown_below hg h.lo h.b.size), h.lo, h.lt, hd, h.x.keep (hg.block _ h.x.lt (fun e => by injection e with e; omega)), h.o.keep (Kpt.grown hg (fun b hb e => hb.2 (by injection e with e; exact e.symm)))⟩
theorem LwS.start {w1 w2 : World} (hb : Below w.heap.size w w1) (h0 : w.heap.size ≤ Dd) (hl : Dd < w1.heap.size) (ho : DeskO w2 w1.heap.size u v D) (hd : DiceAt w2 Dd R) (hg : w1.grownBy w2 (some Dd)) : LwS w (w2.alloc (.cells #[u, v] 30)) Dd w2.heap.size R u v D := by
  have ha := below_alloc w2 (.cells #[u, v] 30)
  have hs := hg.size
  exact ⟨below_trans (hb.trans (grown_below hg h0 hb.size)) ha, h0, by omega, hd.below ha, DeskCell.new _ _ rfl, (ho.read.mono (Q := fun b => b ≠ w2.heap.size ∧ b ≠ Dd) fun b hb hq => by omega).below ha⟩
theorem LwS.store {base : Nat} {A' B' : Option Addr} {ca' cb' : Nat} (h : LwS w W Dd n4 R u v D) (ho : DeskO W base (.slice A' D'.cs.length ca') (.slice B' D'.ks.length cb') D') (hl : n4 < base) :
    LwS w ((W.setCell ⟨n4, 0, none⟩ (.slice A' D'.cs.length ca')).setCell ⟨n4, 1, none⟩ (.slice B' D'.ks.length cb')) Dd n4 R (.slice A' D'.cs.length ca') (.slice B' D'.ks.length cb') D' := by
  have h1 := h.lt
  have h2 := h.lo
  have hk : ∀ k, k ≠ n4 → ((W.setCell ⟨n4, 0, none⟩ (.slice A' D'.cs.length ca')).setCell ⟨n4, 1, none⟩ (.slice B' D'.ks.length cb')).heap[k]? = W.heap[k]? := fun k hk => (Below.heap_setCell _ _ _ k hk).trans (Below.heap_setCell _ _ _ k hk)
  refine ⟨below_set (below_set h.b ⟨n4, 0, none⟩ _ (by show w.heap.size ≤ n4; omega)) ⟨n4, 1, none⟩ _ (by show w.heap.size ≤ n4; omega), h2, h1, h.d.keep fun k hk2 => hk k (by omega), (h.x.set0 _).set1 _, ?_⟩
  exact ((ho.read.mono (Q := fun b => b ≠ n4 ∧ b ≠ Dd) fun b _ hb => by omega).keep (Kpt.set _ _ _ fun b hb => hb.1)).keep (Kpt.set _ _ _ fun b hb => hb.1)
theorem LwS.forms (h : LwS w W Dd n4 R u v D) : ∃ A ca B cb, u = .slice A D.cs.length ca ∧ v = .slice B D.ks.length cb := by
  obtain ⟨A, ca, B, cb, e, -⟩ := h.o
  injection e with e
  simp only [Array.mk.injEq, List.cons.injEq, and_true] at e
  exact ⟨A, ca, B, cb, e.1, e.2⟩
end
/-! ### A throw in a region that draws its order -/
structure NxS (W0 : World) (Dd : Nat) (R : List Int) (c : Nat) (_ : Nat → Value) (L : Nat → Bool) (w : World) : Prop where
  g : W0.grownBy w (some Dd)
  d0 : L c = false → DiceAt w Dd R
  d1 : L c = true → DiceAt w Dd R.tail
section
variable {W0 w w' : World} {Dd c : Nat} {R : List Int} {V : Nat → Value} {L : Nat → Bool}
theorem NxS.start (hd : DiceAt W0 Dd R) (V : Nat → Value) : NxS W0 Dd R c V (fun _ => false) W0.drew := ⟨grown_of_below (Below.drew (Below.refl _ _)), fun _ => hd.below (Below.drew (Below.refl _ _)), fun e => (by cases e)⟩
theorem NxS.mv (h : NxS W0 Dd R c V L w) (i : Nat) (hi : c ≠ i) {V' : Nat → Value} : NxS W0 Dd R c V' (upd L i) w := ⟨h.g, by rw [upd_other _ hi]; exact h.d0, by rw [upd_other _ hi]; exact h.d1⟩
theorem NxS.nx (h : NxS W0 Dd R c V L w) (hd : DiceAt w' Dd R.tail) (hg : w.grownBy w' (some Dd)) {V' : Nat → Value} : NxS W0 Dd R c V' (upd L c) w' := ⟨grown_trans h.g hg, fun e => (by rw [upd_same] at e; cases e), fun _ => hd⟩
theorem NxS.cell (h : NxS W0 Dd R c V L w) {b : Nat} (o : Nat) (hb : b < W0.heap.size) (hne : b ≠ Dd) : w.cell? ⟨b, o, none⟩ = W0.cell? ⟨b, o, none⟩ := World.cell?_of_block (w := W0) (h.g.block b hb (fun e => by injection e with e; exact hne e))
end
theorem DeskR.cou {P : Nat → Prop} {w : World} {A B : Option Addr} {ca n cb : Nat} {C : List CouD} {K : List CaseD} (h : DeskR P w (.agg #[.slice A C.length ca, .slice B n cb]) ⟨C, K⟩) : CousP P w A ca C ∧ ElP EK P w B cb K := by
  obtain ⟨A', ca', B', cb', e, h1, h2⟩ := h
  injection e with e
  simp only [Array.mk.injEq, List.cons.injEq, and_true, Value.slice.injEq] at e
  obtain ⟨⟨rfl, -, rfl⟩, ⟨rfl, -, rfl⟩⟩ := e
  exact ⟨h1, h2⟩
theorem unS_take {K : List CaseD} {k : Nat} (h : k < K.length) : unS (K.take (k + 1)) = unS (K.take k) + (if (kAt K k).s = true then 0 else 1) := by
  unfold unS
  rw [take_k h, List.countP_append, List.countP_singleton]
  cases (kAt K k).s <;> rfl
theorem unS_all (K : List CaseD) : unS (K.take K.length) = unS K := by rw [List.take_length]
theorem unS_le (K : List CaseD) : unS K ≤ K.length := List.countP_le_length
theorem leaveD_no {D : DeskD} {id : Int} (h : leaveE D id ≠ 0) : leaveD D id = D := by unfold leaveD; rw [if_neg h]
end Go.Proofs.Ytjckpammcgeloaa
namespace Go.Proofs.Ytjckpammcgeloaa
open Go.RowKit

theorem DeskN.pushC {N base : Nat} {w w' : World} {u v : Value} {D : DeskD} {X : List CouV} {x : CouV} {d : CouD} {g n cap : Nat} (h : DeskN N w base u v D) (hX : ElOwn EC 45 w base u X) (hC : CousV (fun b => base ≤ b ∧ u.ownBlock ≠ some b ∧ v.ownBlock ≠ some b ∧ b ≠ N) w X D.cs) (hN : N < w.heap.size)
    (hx : CouR (fun b => base ≤ b ∧ u.ownBlock ≠ some b ∧ v.ownBlock ≠ some b ∧ b ≠ N) w x d) (ho : ElOwn EC 45 w' base (.slice (some ⟨g, 0, none⟩) n cap) (X ++ [x])) (hg : w.grownBy w' u.ownBlock) (hor : u.ownBlock = some g ∨ w.heap.size ≤ g) :
    DeskN N w' base (.slice (some ⟨g, 0, none⟩) n cap) v ⟨D.cs ++ [d], D.ks⟩ := by
  have hv : ∀ b, v.ownBlock = some b → b < w.heap.size ∧ u.ownBlock ≠ some b := fun b hb => ⟨(World.ownsRow.lt h.ks b hb).2, fun e => h.ne b e hb⟩
  refine ⟨⟨X ++ [x], ho, ?_⟩, h.ks.kept (fun k hk => hg.block k (hv k hk).1 (fun e => (hv k hk).2 e.symm)), fun b hb e => ?_, fun e => ?_, h.nv⟩
  · have q := ((hC.app (CousV.one hx)).mono (Q := fun b => base ≤ b ∧ u.ownBlock ≠ some b ∧ v.ownBlock ≠ some b ∧ b ≠ N ∧ g ≠ b) (fun b hl hb => ⟨hb.1, hb.2.1, hb.2.2.1, hb.2.2.2, fun e => by
      rcases hor with h0 | h0
      · exact hb.2.1 (by rw [h0, e])
      · omega⟩)).keep (w' := w') (Kpt.grown hg (fun b hb => hb.2.1))
    exact q.mono (fun b _ hb => ⟨hb.1, fun e => hb.2.2.2.2 (by injection e), hb.2.2.1, hb.2.2.2.1⟩)
  · have hb : some g = some b := hb
    injection hb with hb
    subst hb
    rcases hor with h0 | h0
    · exact (hv g e).2 h0
    · have := (hv g e).1; omega
  · have e : some g = some N := e
    injection e with e
    rcases hor with h0 | h0
    · exact h.nu (by rw [h0, e])
    · omega
/-- The desk of CounsellorMade: what it refers to is the call's own and lies elsewhere. -/
structure MdS (w W : World) (Dd n4 base : Nat) (R : List Int) (u v : Value) (D : DeskD) : Prop where
  b : Below w.heap.size w W
  lo : w.heap.size ≤ Dd
  lt : Dd < base
  lb : base ≤ n4
  d : DiceAt W Dd R
  x : DeskCell W n4 u v
  o : DeskN n4 W base u v D
section
variable {w W W' : World} {Dd n4 base : Nat} {R R' : List Int} {u v : Value} {D : DeskD}
theorem MdS.below (h : MdS w W Dd n4 base R u v D) (hb : Below W.heap.size W W') : MdS w W' Dd n4 base R u v D := ⟨below_trans h.b hb, h.lo, h.lt, h.lb, h.d.below hb, h.x.below hb, h.o.below hb⟩
theorem MdS.dice (h : MdS w W Dd n4 base R u v D) (hd : DiceAt W' Dd R') (hg : W.grownBy W' (some Dd)) : MdS w W' Dd n4 base R' u v D := by
  have h1 := h.lt
  have h2 := h.lb
  obtain ⟨X, q1, q2⟩ := h.o.cs
  exact ⟨h.b.trans (grown_below hg h.lo h.b.size), h.lo, h.lt, h.lb, hd, h.x.keep (hg.block _ h.x.lt (fun e => by injection e with e; omega)), ⟨⟨X, q1.grown hg h1, q2.keep (Kpt.grown hg (fun b hb e => by injection e with e; have := hb.1; omega))⟩, h.o.ks.grown hg h1, h.o.ne, h.o.nu, h.o.nv⟩⟩
theorem MdS.start {w1 w2 : World} (hb : Below w.heap.size w w1) (h0 : w.heap.size ≤ Dd) (hl : Dd < w1.heap.size) (ho : DeskO w2 w1.heap.size u v D) (hd : DiceAt w2 Dd R) (hg : w1.grownBy w2 (some Dd)) : MdS w (w2.alloc (.cells #[u, v] 30)) Dd w2.heap.size w1.heap.size R u v D := by
  have ha := below_alloc w2 (.cells #[u, v] 30)
  exact ⟨below_trans (hb.trans (grown_below hg h0 hb.size)) ha, h0, hl, hg.size, hd.below ha, DeskCell.new _ _ rfl, (DeskN.of_hi ho (Nat.le_refl _)).below ha⟩
theorem MdS.up (h : MdS w W Dd n4 base R u v D) {r : Option Nat} (hg : W.grownBy W' r) (hr : ∀ b, r = some b → base ≤ b ∧ b ≠ n4) (j : Nat) (y : Value) : Below w.heap.size w (W'.setCell ⟨n4, j, none⟩ y) ∧ DiceAt (W'.setCell ⟨n4, j, none⟩ y) Dd R ∧ DeskCell W' n4 u v := by
  have h1 := h.lt
  have h2 := h.lb
  have h3 := h.lo
  have hs := h.b.size
  have hdl := h.d.lt
  refine ⟨below_set (h.b.trans ⟨hg.os, hg.tape, hg.output, hg.size, fun k hk => hg.block k (by omega) (fun e => by have := hr k e.symm; omega)⟩) ⟨n4, j, none⟩ y (by show w.heap.size ≤ n4; omega), h.d.keep fun k hk => (Below.heap_setCell W' ⟨n4, j, none⟩ y k (fun e => by have e2 : k = n4 := e; omega)).trans (hg.block k (by omega) (fun e => by have := hr k e.symm; omega)), h.x.keep (hg.block _ h.x.lt (fun e => (hr n4 e.symm).2 rfl))⟩
theorem MdS.pushK {K' : List CaseD} {g n cap : Nat} (h : MdS w W Dd n4 base R u v D) (ho : ElOwn EK 37 W' base (.slice (some ⟨g, 0, none⟩) n cap) K') (hg : W.grownBy W' v.ownBlock) (hor : v.ownBlock = some g ∨ W.heap.size ≤ g) :
    DeskCell W' n4 u v ∧ MdS w (W'.setCell ⟨n4, 1, none⟩ (.slice (some ⟨g, 0, none⟩) n cap)) Dd n4 base R u (.slice (some ⟨g, 0, none⟩) n cap) ⟨D.cs, K'⟩ := by
  obtain ⟨q1, q2, q3⟩ := h.up hg (fun b e => ⟨(World.ownsRow.lt h.o.ks b e).1, fun e2 => h.o.nv (by rw [e, e2])⟩) 1 (.slice (some ⟨g, 0, none⟩) n cap)
  exact ⟨q3, q1, h.lo, h.lt, h.lb, q2, q3.set1 _, (h.o.push h.x.lt ho hg hor).set 1 _⟩
theorem MdS.pushC {X : List CouV} {d : CouD} {g n cap : Nat} (h : MdS w W Dd n4 base R u v D) (hX : ElOwn EC 45 W base u X) (hC : CousV (fun b => base ≤ b ∧ u.ownBlock ≠ some b ∧ v.ownBlock ≠ some b ∧ b ≠ n4) W X D.cs) (hd : d.away = []) (ho : ElOwn EC 45 W' base (.slice (some ⟨g, 0, none⟩) n cap) (X ++ [⟨d.id, d.o, none, 0, 0⟩])) (hg : W.grownBy W' u.ownBlock) (hor : u.ownBlock = some g ∨ W.heap.size ≤ g) :
    DeskCell W' n4 u v ∧ MdS w (W'.setCell ⟨n4, 0, none⟩ (.slice (some ⟨g, 0, none⟩) n cap)) Dd n4 base R (.slice (some ⟨g, 0, none⟩) n cap) v ⟨D.cs ++ [d], D.ks⟩ := by
  obtain ⟨q1, q2, q3⟩ := h.up hg (fun b e => ⟨(World.ownsRow.lt hX b e).1, fun e2 => h.o.nu (by rw [e, e2])⟩) 0 (.slice (some ⟨g, 0, none⟩) n cap)
  exact ⟨q3, q1, h.lo, h.lt, h.lb, q2, q3.set0 _, (h.o.pushC hX hC h.x.lt ⟨rfl, rfl, by rw [hd]; rfl, by rw [hd]; exact ElP.nil _ _ _⟩ ho hg hor).set 0 _⟩
theorem MdS.forms (h : MdS w W Dd n4 base R u v D) : ∃ A ca B cb, u = .slice A D.cs.length ca ∧ v = .slice B D.ks.length cb := h.o.o.forms
end
/-! ### The order of such a region -/
structure ApJ (pr : List Nat) (l1 d1 l2 d2 bd bl ap st ld : Nat) (Q : World → Prop) (L1 L2 Bq Aq Fq : Value → World → Prop) (V : Nat → Value) (L : Nat → Bool) (W : World) : Prop where
  o1 : L d1 = true → L l1 = true
  o2 : L d2 = true → L l2 = true
  oc : L bd = true → (L d1 = true ∧ L d2 = true) ∧ ∀ j ∈ pr, L j = true
  ob : L bl = true → L bd = true
  oa : L ap = true → L bl = true ∧ L ld = true
  os : L st = true → L ap = true
  p : L ap = false → Q W
  p1 : L l1 = true → L bl = false → L1 (V l1) W
  p2 : L l2 = true → L bl = false → L2 (V l2) W
  pb : L bl = true → L ap = false → Bq (V bl) W
  pa : L ap = true → L st = false → Aq (V ap) W
  ps : L st = true → Fq (V ap) W
section
variable {pr : List Nat} {l1 d1 l2 d2 bd bl ap st ld : Nat} {Q : World → Prop} {L1 L2 Bq Aq Fq : Value → World → Prop} {V : Nat → Value} {L : Nat → Bool} {W W' : World}
theorem ApJ.start (hq : Q W) (V : Nat → Value) : ApJ pr l1 d1 l2 d2 bd bl ap st ld Q L1 L2 Bq Aq Fq V (fun _ => false) W :=
  ⟨fun e => (by cases e), fun e => (by cases e), fun e => (by cases e), fun e => (by cases e), fun e => (by cases e), fun e => (by cases e), fun _ => hq, fun e => (by cases e), fun e => (by cases e), fun e => (by cases e), fun e => (by cases e), fun e => (by cases e)⟩
theorem ApJ.na (h : ApJ pr l1 d1 l2 d2 bd bl ap st ld Q L1 L2 Bq Aq Fq V L W) (hL : L bl = false ∨ L ld = false) : L ap = false := by
  cases r : L ap with
  | false => rfl
  | true =>
    have := h.oa r
    rcases hL with q | q
    · rw [q] at this; cases this.1
    · rw [q] at this; cases this.2
theorem ApJ.ns (h : ApJ pr l1 d1 l2 d2 bd bl ap st ld Q L1 L2 Bq Aq Fq V L W) (hL : L ap = false) : L st = false := by
  cases r : L st with
  | false => rfl
  | true => have := h.os r; rw [hL] at this; cases this
theorem ApJ.nb (h : ApJ pr l1 d1 l2 d2 bd bl ap st ld Q L1 L2 Bq Aq Fq V L W) {i : Nat} (hi : i = l1 ∨ i = d1 ∨ i = l2 ∨ i = d2 ∨ i ∈ pr) (hL : L i = false) : L bd = false := by
  cases r : L bd with
  | false => rfl
  | true =>
    exfalso
    obtain ⟨⟨q1, q2⟩, q3⟩ := h.oc r
    rcases hi with rfl | rfl | rfl | rfl | hi
    · have := h.o1 q1; rw [hL] at this; cases this
    · rw [hL] at q1; cases q1
    · have := h.o2 q2; rw [hL] at this; cases this
    · rw [hL] at q2; cases q2
    · have := q3 i hi; rw [hL] at this; cases this
theorem ApJ.nl (h : ApJ pr l1 d1 l2 d2 bd bl ap st ld Q L1 L2 Bq Aq Fq V L W) (hL : L bd = false) : L bl = false := by
  cases r : L bl with
  | false => rfl
  | true => have := h.ob r; rw [hL] at this; cases this
theorem ApJ.mv (h : ApJ pr l1 d1 l2 d2 bd bl ap st ld Q L1 L2 Bq Aq Fq V L W) (i : Nat) (hi : l1 ≠ i ∧ d1 ≠ i ∧ l2 ≠ i ∧ d2 ≠ i ∧ bd ≠ i ∧ bl ≠ i ∧ ap ≠ i ∧ st ≠ i) {x : Value} : ApJ pr l1 d1 l2 d2 bd bl ap st ld Q L1 L2 Bq Aq Fq (updV V i x) (upd L i) W := by
  obtain ⟨h1, h2, h3, h4, h0, h5, h6, h7⟩ := hi
  refine ⟨?_, ?_, ?_, ?_, ?_, ?_, ?_, ?_, ?_, ?_, ?_, ?_⟩
  · rw [upd_other _ h1, upd_other _ h2]; exact h.o1
  · rw [upd_other _ h3, upd_other _ h4]; exact h.o2
  · rw [upd_other _ h2, upd_other _ h4, upd_other _ h0]; exact fun e => ⟨(h.oc e).1, fun j hj => upd_keep L i ((h.oc e).2 j hj)⟩
  · rw [upd_other _ h5, upd_other _ h0]; exact h.ob
  · rw [upd_other _ h5, upd_other _ h6]; exact fun e => ⟨(h.oa e).1, upd_keep L i (h.oa e).2⟩
  · rw [upd_other _ h6, upd_other _ h7]; exact h.os
  · rw [upd_other _ h6]; exact h.p
  · rw [upd_other _ h1, upd_other _ h5, updV_other _ _ h1]; exact h.p1
  · rw [upd_other _ h3, upd_other _ h5, updV_other _ _ h3]; exact h.p2
  · rw [upd_other _ h5, upd_other _ h6, updV_other _ _ h5]; exact h.pb
  · rw [upd_other _ h6, upd_other _ h7, updV_other _ _ h6]; exact h.pa
  · rw [upd_other _ h7, updV_other _ _ h6]; exact h.ps
/-- A literal for a throw, or a throw. -/
theorem ApJ.tn (h : ApJ pr l1 d1 l2 d2 bd bl ap st ld Q L1 L2 Bq Aq Fq V L W) (i : Nat) (hi : i = l1 ∨ i = d1 ∨ i = l2 ∨ i = d2) (hb : bd ≠ i ∧ bl ≠ i ∧ ap ≠ i ∧ st ≠ i) (g1 : i = d1 → L l1 = true) (g2 : i = d2 → L l2 = true) (n1 : d1 ≠ l1 ∧ d1 ≠ l2 ∧ d2 ≠ l1 ∧ d2 ≠ l2) (n2 : d1 ≠ d2) (hL : L i = false) {x : Value}
    (hQ : Q W → Q W') (hL1 : ∀ y, L1 y W → L1 y W') (hL2 : ∀ y, L2 y W → L2 y W') (x1 : i = l1 → L1 x W') (x2 : i = l2 → L2 x W') : ApJ pr l1 d1 l2 d2 bd bl ap st ld Q L1 L2 Bq Aq Fq (updV V i x) (upd L i) W' := by
  obtain ⟨b0, b1, b2, b3⟩ := hb
  have nd := h.nb (by rcases hi with e | e | e | e <;> simp [e]) hL
  have nb := h.nl nd
  have ed : upd L i bd = false := by rw [upd_other _ b0]; exact nd
  have na := h.na (.inl nb)
  have ns := h.ns na
  have eb : upd L i bl = false := by rw [upd_other _ b1]; exact nb
  have ea : upd L i ap = false := by rw [upd_other _ b2]; exact na
  have es : upd L i st = false := by rw [upd_other _ b3]; exact ns
  refine ⟨fun e => ?_, fun e => ?_, fun e => (by rw [ed] at e; cases e), fun e => (by rw [eb] at e; cases e), fun e => (by rw [ea] at e; cases e), fun e => (by rw [es] at e; cases e), fun _ => hQ (h.p na), fun e _ => ?_, fun e _ => ?_, fun e => (by rw [eb] at e; cases e), fun e => (by rw [ea] at e; cases e), fun e => (by rw [es] at e; cases e)⟩
  · by_cases q : i = d1
    · exact upd_keep L i (g1 q)
    · rw [upd_other _ (fun e2 => q e2.symm)] at e; exact upd_keep L i (h.o1 e)
  · by_cases q : i = d2
    · exact upd_keep L i (g2 q)
    · rw [upd_other _ (fun e2 => q e2.symm)] at e; exact upd_keep L i (h.o2 e)
  · by_cases q : i = l1
    · subst q; rw [updV_same]; exact x1 rfl
    · rw [upd_other _ (fun e2 => q e2.symm)] at e; rw [updV_other _ _ (fun e2 => q e2.symm)]; exact hL1 _ (h.p1 e nb)
  · by_cases q : i = l2
    · subst q; rw [updV_same]; exact x2 rfl
    · rw [upd_other _ (fun e2 => q e2.symm)] at e; rw [updV_other _ _ (fun e2 => q e2.symm)]; exact hL2 _ (h.p2 e nb)
/-- The element is built. -/
theorem ApJ.sd (h : ApJ pr l1 d1 l2 d2 bd bl ap st ld Q L1 L2 Bq Aq Fq V L W) (hn : d1 ≠ bd ∧ d2 ≠ bd ∧ l1 ≠ bd ∧ l2 ≠ bd ∧ bl ≠ bd ∧ ap ≠ bd ∧ st ≠ bd) (g : (L d1 = true ∧ L d2 = true) ∧ ∀ j ∈ pr, L j = true) (hL : L bd = false) {x : Value} : ApJ pr l1 d1 l2 d2 bd bl ap st ld Q L1 L2 Bq Aq Fq (updV V bd x) (upd L bd) W := by
  obtain ⟨b1, b2, b3, b4, b5, b6, b7⟩ := hn
  have nb := h.nl hL
  have na := h.na (.inl nb)
  have ns := h.ns na
  have eb : upd L bd bl = false := by rw [upd_other _ b5]; exact nb
  have ea : upd L bd ap = false := by rw [upd_other _ b6]; exact na
  have es : upd L bd st = false := by rw [upd_other _ b7]; exact ns
  refine ⟨fun e => ?_, fun e => ?_, fun _ => ⟨⟨upd_keep L bd g.1.1, upd_keep L bd g.1.2⟩, fun j hj => upd_keep L bd (g.2 j hj)⟩, fun e => (by rw [eb] at e; cases e), fun e => (by rw [ea] at e; cases e), fun e => (by rw [es] at e; cases e), fun _ => h.p na, fun e _ => ?_, fun e _ => ?_, fun e => (by rw [eb] at e; cases e), fun e => (by rw [ea] at e; cases e), fun e => (by rw [es] at e; cases e)⟩
  · rw [upd_other _ b1] at e; exact upd_keep L bd (h.o1 e)
  · rw [upd_other _ b2] at e; exact upd_keep L bd (h.o2 e)
  · rw [upd_other _ b3] at e; rw [updV_other _ _ b3]; exact h.p1 e nb
  · rw [upd_other _ b4] at e; rw [updV_other _ _ b4]; exact h.p2 e nb
theorem ApJ.sb (h : ApJ pr l1 d1 l2 d2 bd bl ap st ld Q L1 L2 Bq Aq Fq V L W) (hn : d1 ≠ bl ∧ d2 ≠ bl ∧ ap ≠ bl ∧ st ≠ bl) (g : L bd = true) (hL : L bl = false) {x : Value} (hQ : Q W → Q W') (hx : Q W → Bq x W') : ApJ pr l1 d1 l2 d2 bd bl ap st ld Q L1 L2 Bq Aq Fq (updV V bl x) (upd L bl) W' := by
  obtain ⟨b1, b3, b5, b6⟩ := hn
  have na := h.na (.inl hL)
  have ns := h.ns na
  have ea : upd L bl ap = false := by rw [upd_other _ b5]; exact na
  have es : upd L bl st = false := by rw [upd_other _ b6]; exact ns
  have gg := h.oc g
  refine ⟨fun e => ?_, fun e => ?_, fun _ => ⟨⟨upd_keep L bl gg.1.1, upd_keep L bl gg.1.2⟩, fun j hj => upd_keep L bl (gg.2 j hj)⟩, fun _ => upd_keep L bl g, fun e => (by rw [ea] at e; cases e), fun e => (by rw [es] at e; cases e), fun _ => hQ (h.p na), fun _ e => (by rw [upd_same] at e; cases e), fun _ e => (by rw [upd_same] at e; cases e), fun _ _ => ?_, fun e => (by rw [ea] at e; cases e), fun e => (by rw [es] at e; cases e)⟩
  · rw [upd_other _ b1] at e; exact upd_keep L bl (h.o1 e)
  · rw [upd_other _ b3] at e; exact upd_keep L bl (h.o2 e)
  · rw [updV_same]; exact hx (h.p na)
theorem ApJ.sa (h : ApJ pr l1 d1 l2 d2 bd bl ap st ld Q L1 L2 Bq Aq Fq V L W) (hn : bl ≠ ap ∧ st ≠ ap ∧ d1 ≠ ap ∧ d2 ≠ ap) (gb : L bl = true) (gl : L ld = true) (hL : L ap = false) {x : Value} (hx : Aq x W') : ApJ pr l1 d1 l2 d2 bd bl ap st ld Q L1 L2 Bq Aq Fq (updV V ap x) (upd L ap) W' := by
  obtain ⟨b1, b2, b3, b4⟩ := hn
  have ns := h.ns hL
  have es : upd L ap st = false := by rw [upd_other _ b2]; exact ns
  have eb : upd L ap bl = true := upd_keep L ap gb
  refine ⟨fun e => ?_, fun e => ?_, fun _ => ⟨⟨upd_keep L ap (h.oc (h.ob gb)).1.1, upd_keep L ap (h.oc (h.ob gb)).1.2⟩, fun j hj => upd_keep L ap ((h.oc (h.ob gb)).2 j hj)⟩, fun _ => upd_keep L ap (h.ob gb), fun _ => ⟨eb, upd_keep L ap gl⟩, fun e => (by rw [es] at e; cases e), fun e => (by rw [upd_same] at e; cases e), fun _ e => (by rw [eb] at e; cases e), fun _ e => (by rw [eb] at e; cases e), fun _ e => (by rw [upd_same] at e; cases e), fun _ _ => ?_, fun e => (by rw [es] at e; cases e)⟩
  · rw [upd_other _ b3] at e; exact upd_keep L ap (h.o1 e)
  · rw [upd_other _ b4] at e; exact upd_keep L ap (h.o2 e)
  · rw [updV_same]; exact hx
theorem ApJ.ss (h : ApJ pr l1 d1 l2 d2 bd bl ap st ld Q L1 L2 Bq Aq Fq V L W) (hn : bl ≠ st ∧ ap ≠ st ∧ d1 ≠ st ∧ d2 ≠ st) (ga : L ap = true) {x : Value} (hx : Fq (V ap) W') : ApJ pr l1 d1 l2 d2 bd bl ap st ld Q L1 L2 Bq Aq Fq (updV V st x) (upd L st) W' := by
  obtain ⟨b1, b2, b3, b4⟩ := hn
  have gb := (h.oa ga).1
  have eb : upd L st bl = true := upd_keep L st gb
  have ea : upd L st ap = true := upd_keep L st ga
  refine ⟨fun e => ?_, fun e => ?_, fun _ => ⟨⟨upd_keep L st (h.oc (h.ob gb)).1.1, upd_keep L st (h.oc (h.ob gb)).1.2⟩, fun j hj => upd_keep L st ((h.oc (h.ob gb)).2 j hj)⟩, fun _ => upd_keep L st (h.ob gb), fun _ => ⟨eb, upd_keep L st (h.oa ga).2⟩, fun _ => ea, fun e => (by rw [ea] at e; cases e), fun _ e => (by rw [eb] at e; cases e), fun _ e => (by rw [eb] at e; cases e), fun _ e => (by rw [ea] at e; cases e), fun _ e => (by rw [upd_same] at e; cases e), fun _ => ?_⟩
  · rw [upd_other _ b3] at e; exact upd_keep L st (h.o1 e)
  · rw [upd_other _ b4] at e; exact upd_keep L st (h.o2 e)
  · rw [updV_other _ _ b2]; exact hx
end
end Go.Proofs.Ytjckpammcgeloaa
namespace Go.Proofs.Ytjckpammcgeloaa
open Go.RowKit

def okd (d : CouD) : Prop := d.away = [] ∧ d.o.size ≤ 1000
def QM (w : World) (Dd n4 base : Nat) (u v : Value) (C : List CouD) (K : List CaseD) (W : World) : Prop := ∃ R, MdS w W Dd n4 base R u v ⟨C, K⟩
def CuB (w : World) (Dd n4 base : Nat) (u v : Value) (C : List CouD) (K : List CaseD) (y : Value) (W : World) : Prop :=
  ∃ (W1 : World) (d : CouD) (R : List Int), W = W1.alloc (.cells (EC.f ⟨d.id, d.o, none, 0, 0⟩).toArray 45) ∧ y = .slice (some ⟨W1.heap.size, 0, none⟩) 1 1 ∧ okd d ∧ MdS w W1 Dd n4 base R u v ⟨C, K⟩
def CuA (w : World) (Dd n4 base : Nat) (u v : Value) (C : List CouD) (K : List CaseD) (y : Value) (W : World) : Prop :=
  ∃ (R : List Int) (d : CouD) (g n cap : Nat), okd d ∧ y = .slice (some ⟨g, 0, none⟩) n cap ∧ DeskCell W n4 u v ∧ MdS w (W.setCell ⟨n4, 0, none⟩ y) Dd n4 base R y v ⟨C ++ [d], K⟩
def CuF (w : World) (Dd n4 base : Nat) (v : Value) (C : List CouD) (K : List CaseD) (y : Value) (W : World) : Prop := ∃ (R : List Int) (d : CouD), okd d ∧ MdS w W Dd n4 base R y v ⟨C ++ [d], K⟩
def KaB (w : World) (Dd n4 base : Nat) (u v : Value) (C : List CouD) (K : List CaseD) (y : Value) (W : World) : Prop :=
  ∃ (W1 : World) (x : CaseD) (R : List Int), W = W1.alloc (.cells (EK.f x).toArray 37) ∧ y = .slice (some ⟨W1.heap.size, 0, none⟩) 1 1 ∧ okC x ∧ MdS w W1 Dd n4 base R u v ⟨C, K⟩
def KaA (w : World) (Dd n4 base : Nat) (u v : Value) (C : List CouD) (K : List CaseD) (y : Value) (W : World) : Prop :=
  ∃ (R : List Int) (x : CaseD) (g n cap : Nat), okC x ∧ y = .slice (some ⟨g, 0, none⟩) n cap ∧ DeskCell W n4 u v ∧ MdS w (W.setCell ⟨n4, 1, none⟩ y) Dd n4 base R u y ⟨C, K ++ [x]⟩
def KaF (w : World) (Dd n4 base : Nat) (u : Value) (C : List CouD) (K : List CaseD) (y : Value) (W : World) : Prop := ∃ (R : List Int) (x : CaseD), okC x ∧ MdS w W Dd n4 base R u y ⟨C, K ++ [x]⟩
theorem apc_run {w : World} {base : Nat} {v : Value} {S : List CouV} (x : CouV) (hown : ElOwn EC 45 w base v S) (hl : S.length + 1 ≤ 1000000) (hbase : base ≤ w.heap.size) :
    ∃ g cap w', (Builtin.append_ #[27, 27] 27 #[v, .slice (some ⟨w.heap.size, 0, none⟩) 1 1]).run Try.prog (w.alloc (.cells (EC.f x).toArray 45)) = .ok (.slice (some ⟨g, 0, none⟩) (S.length + 1) cap) w' ∧ ElOwn EC 45 w' base (.slice (some ⟨g, 0, none⟩) (S.length + 1) cap) (S ++ [x]) ∧ w.grownBy w' v.ownBlock ∧ (v.ownBlock = some g ∨ w.heap.size ≤ g) := by
  obtain ⟨v', w', h1, h2, h3, h4⟩ := app_run EC Try.underlying27 info_cou rfl (hown.alloc (.cells (EC.f x).toArray 45)) ⟨w.heap.size, 0, none⟩ 1 1 (T := [x]) rfl (ElAt.lit EC w x 45).news (by simpa using hl) (by omega) (by simp; omega) 27
  have hpos : 0 < (S ++ [x]).length := by simp
  obtain ⟨g, cap, rfl, h5, h6⟩ := World.ownsRow.form h2 hpos
  rw [List.length_append, List.length_singleton] at h1
  refine ⟨g, cap, w', h1, by have := h2; rw [List.length_append, List.length_singleton] at this; exact this, ⟨h3.os, h3.tape, h3.output, Nat.le_trans (by simp) h3.size, fun k hk hne => (h3.block k (by simp; omega) hne).trans (Below.heap_alloc w _ k hk)⟩, ?_⟩
  rcases h4 with h4 | h4
  · exact .inl (by rw [← h4]; rfl)
  · right
    have h4 : some g = some _ := h4
    injection h4 with h4
    simp at h4
    omega
section
variable {w W : World} {Dd n4 base : Nat} {u v y : Value} {C : List CouD} {K : List CaseD}
theorem CuB.go (h : CuB w Dd n4 base u v C K y W) (hl : C.length ≤ 900) : ∃ v' W', (Builtin.append_ #[27, 27] 27 #[u, y]).run Try.prog W = .ok v' W' ∧ CuA w Dd n4 base u v C K v' W' := by
  obtain ⟨W1, d, R, rfl, rfl, hd, hm⟩ := h
  obtain ⟨X, q1, q2⟩ := hm.o.cs
  have hX : X.length = C.length := q2.len
  obtain ⟨g, cap, W', r1, r2, r3, r4⟩ := apc_run ⟨d.id, d.o, none, 0, 0⟩ q1 (by omega) (by have := hm.x.lt; have := hm.lb; omega)
  obtain ⟨s1, s2⟩ := hm.pushC q1 q2 hd.1 r2 r3 r4
  exact ⟨_, W', r1, R, d, g, _, cap, hd, rfl, s1, s2⟩
theorem KaB.go (h : KaB w Dd n4 base u v C K y W) (hl : K.length ≤ 900) : ∃ v' W', (Builtin.append_ #[28, 28] 28 #[v, y]).run Try.prog W = .ok v' W' ∧ KaA w Dd n4 base u v C K v' W' := by
  obtain ⟨W1, x, R, rfl, rfl, hx, hm⟩ := h
  obtain ⟨g, cap, W', r1, r2, r3, r4⟩ := apk_run x hm.o.ks (by show K.length + 1 ≤ _; omega) (by have := hm.x.lt; have := hm.lb; omega)
  obtain ⟨s1, s2⟩ := hm.pushK r2 r3 r4
  exact ⟨_, W', r1, R, x, g, _, cap, hx, rfl, s1, s2⟩
theorem st_cs {w : World} {x : Nat} {u v : Value} (h : DeskCell w x u v) (B : Option Addr) (m d : Nat) : (Instr.storeAt 27 (.pointer (some ⟨x, 0, none⟩)) (.slice B m d)).run Try.prog w = .ok () (w.setCell ⟨x, 0, none⟩ (.slice B m d)) := by
  have h0 := h.c0
  have f0 := h.fz 0
  go_simp
theorem CuA.go (h : CuA w Dd n4 base u v C K y W) : (Instr.storeAt 27 (.pointer (some ⟨n4, 0, none⟩)) y).run Try.prog W = .ok () (W.setCell ⟨n4, 0, none⟩ y) ∧ CuF w Dd n4 base v C K y (W.setCell ⟨n4, 0, none⟩ y) := by
  obtain ⟨R, d, g, n, cap, hd, rfl, hc, hm⟩ := h
  exact ⟨st_cs hc _ _ _, R, d, hd, hm⟩
theorem KaA.go (h : KaA w Dd n4 base u v C K y W) : (Instr.storeAt 28 (.pointer (some ⟨n4, 1, none⟩)) y).run Try.prog W = .ok () (W.setCell ⟨n4, 1, none⟩ y) ∧ KaF w Dd n4 base u C K y (W.setCell ⟨n4, 1, none⟩ y) := by
  obtain ⟨R, x, g, n, cap, hx, rfl, hc, hm⟩ := h
  exact ⟨st_ks hc _ _ _, R, x, hx, hm⟩
end
def intL (n : Nat) (l : List Int) (Dd : Nat) (y : Value) (W : World) : Prop := ∃ A c, y = .slice A n c ∧ IntsAt W A l ∧ ∀ b off, A = some ⟨b, off, none⟩ → b ≠ Dd
def strL (n : Nat) (l : List ByteArray) (Dd : Nat) (y : Value) (W : World) : Prop := ∃ A c, y = .slice A n c ∧ ElP ES (fun b => b ≠ Dd) W A c l
section
variable {n Dd : Nat} {l : List Int} {m : List ByteArray} {y : Value} {W W' : World}
theorem intL.below (h : intL n l Dd y W) (hb : Below W.heap.size W W') : intL n l Dd y W' := by
  obtain ⟨A, c, e, h1, h2⟩ := h
  exact ⟨A, c, e, h1.below hb, h2⟩
theorem intL.dice (h : intL n l Dd y W) (hg : W.grownBy W' (some Dd)) : intL n l Dd y W' := by
  obtain ⟨A, c, e, h1, h2⟩ := h
  exact ⟨A, c, e, h1.grown hg h2, h2⟩
theorem strL.below (h : strL n m Dd y W) (hb : Below W.heap.size W W') : strL n m Dd y W' := by
  obtain ⟨A, c, e, h1⟩ := h
  exact ⟨A, c, e, h1.below hb⟩
theorem strL.dice (h : strL n m Dd y W) (hg : W.grownBy W' (some Dd)) : strL n m Dd y W' := by
  obtain ⟨A, c, e, h1⟩ := h
  exact ⟨A, c, e, h1.keep (Kpt.grown hg (fun b hb e => hb (by injection e with e; exact e.symm)))⟩
theorem intL.new (W : World) (l : List Int) (n : Nat) (hd : Dd < W.heap.size) : intL n l Dd (.slice (some ⟨W.heap.size, 0, none⟩) n n) (W.alloc (.cells (l.map (Value.int .i64)).toArray 3)) :=
  ⟨_, _, rfl, lit_ints W l, fun b off e => by injection e with e; injection e with e1 e2; omega⟩
theorem strL.new (W : World) (m : List ByteArray) (n : Nat) (hn : n = m.length) (hl : m.length ≤ 1000) (hd : Dd < W.heap.size) : strL n m Dd (.slice (some ⟨W.heap.size, 0, none⟩) n n) (W.alloc (.cells (m.map Value.string).toArray 9)) :=
  ⟨_, _, rfl, (lit_strs W m n hn hl).mono fun b _ e => by omega⟩
end
theorem enter_of (args : Array Value) (w : World) : (callFunc 22 args).run Try.prog w = .ok (.enter 22 args) w :=
  Go.MuLone.run_callFunc_enter Try.func22 (by kernel_rfl) rfl args w
theorem enter_agree (args : Array Value) (w : World) : (callFunc 21 args).run Try.prog w = .ok (.enter 21 args) w :=
  Go.MuLone.run_callFunc_enter Try.func21 (by kernel_rfl) rfl args w
theorem enter_awake (args : Array Value) (w : World) : (callFunc 9 args).run Try.prog w = .ok (.enter 9 args) w :=
  Go.MuLone.run_callFunc_enter Try.func9 (by kernel_rfl) rfl args w
def intPr {R : World → World → Prop} : Pr R := ⟨fun u _ => ∃ n : Int, u = .int .i64 n, fun _ _ _ h _ => h⟩
def couPr {R : World → World → Prop} : Pr R := ⟨fun u _ => ∃ d : CouD, u = .agg #[.int .i64 d.id, .string d.o, .slice none 0 0] ∧ okd d, fun _ _ _ h _ => h⟩
theorem bd_cou (w : World) (i : Int) (s : ByteArray) : (Instr.build 45 #[(0, .int .i64 i), (1, .string s)]).run Try.prog w = .ok (.agg #[.int .i64 i, .string s, .slice none 0 0]) w := by go_simp
theorem bs_cou (w : World) (i : Int) (s : ByteArray) : (Instr.buildSlice 27 1 #[(0, .agg #[.int .i64 i, .string s, .slice none 0 0])]).run Try.prog w = .ok (.slice (some ⟨w.heap.size, 0, none⟩) 1 1) (w.alloc (.cells (EC.f ⟨i, s, none, 0, 0⟩).toArray 45)) := by
  show _ = Result.ok _ (w.alloc (.cells #[.int .i64 i, .string s, .slice none 0 0] 45))
  go_simp
theorem bd_case4 (w : World) (i : Int) (s o : ByteArray) (t : Int) : (Instr.build 37 #[(0, .int .i64 i), (1, .string s), (2, .string o), (3, .int .i64 t)]).run Try.prog w = .ok (caseV ⟨i, s, o, t, false⟩) w := by
  show _ = Result.ok (Value.agg #[.int .i64 i, .string s, .string o, .int .i64 t, .bool false]) w
  go_simp
def bNil : ByteArray := ⟨#[]⟩
def bOther : ByteArray := ⟨#[111, 116, 104, 101, 114]⟩
def bDan : ByteArray := ⟨#[100, 97, 110]⟩
def bOld : ByteArray := ⟨#[111, 108, 100]⟩
theorem bs_i6 (w : World) (n : Int) : (Instr.buildSlice 22 6 #[(0, .int .i64 1), (1, .int .i64 2), (2, .int .i64 0), (3, .int .i64 1048576), (4, .int .i64 1048577), (5, .int .i64 n)]).run Try.prog w = .ok (.slice (some ⟨w.heap.size, 0, none⟩) 6 6) (w.alloc (.cells (([1, 2, 0, 1048576, 1048577, n] : List Int).map (Value.int .i64)).toArray 3)) := by
  show _ = Result.ok _ (w.alloc (.cells #[.int .i64 1, .int .i64 2, .int .i64 0, .int .i64 1048576, .int .i64 1048577, .int .i64 n] 3))
  go_simp
theorem bs_i3 (w : World) (n : Int) : (Instr.buildSlice 22 3 #[(0, .int .i64 2), (1, .int .i64 3), (2, .int .i64 n)]).run Try.prog w = .ok (.slice (some ⟨w.heap.size, 0, none⟩) 3 3) (w.alloc (.cells (([2, 3, n] : List Int).map (Value.int .i64)).toArray 3)) := by
  show _ = Result.ok _ (w.alloc (.cells #[.int .i64 2, .int .i64 3, .int .i64 n] 3))
  go_simp
theorem bs_i2 (w : World) (t : Int) : (Instr.buildSlice 22 2 #[(0, .int .i64 t), (1, .int .i64 60)]).run Try.prog w = .ok (.slice (some ⟨w.heap.size, 0, none⟩) 2 2) (w.alloc (.cells (([t, 60] : List Int).map (Value.int .i64)).toArray 3)) := by
  show _ = Result.ok _ (w.alloc (.cells #[.int .i64 t, .int .i64 60] 3))
  go_simp
theorem bs_hn (w : World) : (Instr.buildSlice 43 2 #[(0, .string ⟨#[104, 114]⟩), (1, .string ⟨#[]⟩)]).run Try.prog w = .ok (.slice (some ⟨w.heap.size, 0, none⟩) 2 2) (w.alloc (.cells ([bHr, bNil].map Value.string).toArray 9)) := by
  show _ = Result.ok _ (w.alloc (.cells #[.string ⟨#[104, 114]⟩, .string ⟨#[]⟩] 9))
  go_simp
theorem bs_hl (w : World) : (Instr.buildSlice 43 2 #[(0, .string ⟨#[104, 114]⟩), (1, .string ⟨#[108, 101, 103, 97, 108]⟩)]).run Try.prog w = .ok (.slice (some ⟨w.heap.size, 0, none⟩) 2 2) (w.alloc (.cells ([bHr, bLegal].map Value.string).toArray 9)) := by
  show _ = Result.ok _ (w.alloc (.cells #[.string ⟨#[104, 114]⟩, .string ⟨#[108, 101, 103, 97, 108]⟩] 9))
  go_simp
theorem word_small {L : List ByteArray} (h : ∀ x ∈ L, x.size ≤ 1000) (h0 : 0 < L.length) (R : List Int) : (wordV L R).size ≤ 1000 := h _ (wordV_in h0)
theorem sm_hn : ∀ x ∈ [bHr, bNil], x.size ≤ 1000 := by
  intro x hx
  simp only [List.mem_cons, List.mem_nil_iff, or_false] at hx
  rcases hx with e | e <;> rw [e] <;> decide
theorem sm_hl : ∀ x ∈ [bHr, bLegal], x.size ≤ 1000 := by
  intro x hx
  simp only [List.mem_cons, List.mem_nil_iff, or_false] at hx
  rcases hx with e | e <;> rw [e] <;> decide
theorem sm_ro : ∀ x ∈ [bHr, bLegal, bOther, bNil], x.size ≤ 1000 := by
  intro x hx
  simp only [List.mem_cons, List.mem_nil_iff, or_false] at hx
  rcases hx with e | e | e | e <;> rw [e] <;> decide
theorem sm_wh : ∀ x ∈ [bAnn, bBob, bCid, bDan], x.size ≤ 1000 := by
  intro x hx
  simp only [List.mem_cons, List.mem_nil_iff, or_false] at hx
  rcases hx with e | e | e | e <;> rw [e] <;> decide
theorem small_c {C : List CouD} {K : List CaseD} {d : CouD} (h : DeskS ⟨C, K⟩) (hd : okd d) (hl : C.length ≤ 900) : DeskS ⟨C ++ [d], K⟩ := by
  refine ⟨by simp; omega, h.lk, fun k hk => ?_, h.ca⟩
  have hk : k < C.length + 1 := by simpa using hk
  show (cAt (C ++ [d]) k).o.size ≤ _ ∧ _
  rw [cAt_app]
  split
  · rename_i q; exact h.co k q
  · rename_i q
    have : k = C.length := by omega
    subst this
    rw [Nat.sub_self]
    refine ⟨by unfold maxLen; show d.o.size ≤ _; have := hd.2; omega, ?_, ?_⟩
    · show (cAt [d] 0).away.length ≤ _
      show d.away.length ≤ _
      rw [hd.1]; simp
    · show ShortT d.away
      rw [hd.1]; exact fun j hj => absurd hj (by simp)
theorem small_k {C : List CouD} {K : List CaseD} {x : CaseD} (h : DeskS ⟨C, K⟩) (hx : okC x) (hl : K.length ≤ 900) : DeskS ⟨C, K ++ [x]⟩ := by
  refine ⟨h.lc, by simp; omega, h.co, fun k hk => ?_⟩
  have hk : k < K.length + 1 := by simpa using hk
  by_cases e : k < K.length
  · show (kAt (K ++ [x]) k).r.size ≤ _ ∧ _
    rw [kAt_app1 e]; exact h.ca k e
  · show (kAt (K ++ [x]) k).r.size ≤ _ ∧ (kAt (K ++ [x]) k).o.size ≤ _
    rw [kAt_app2 (by omega)]
    unfold maxLen; have := hx.1; have := hx.2
    exact ⟨by omega, by omega⟩
/-! ### The last region -/
structure R25 (Q : World → Prop) (L1 : Value → World → Prop) (V : Nat → Value) (L : Nat → Bool) (W : World) : Prop where
  q : Q W
  l : L 7 = true → L1 (V 7) W
section
variable {Q : World → Prop} {L1 : Value → World → Prop} {V : Nat → Value} {L : Nat → Bool} {W W' : World}
theorem R25.start (h : Q W) (V : Nat → Value) : R25 Q L1 V (fun _ => false) W := ⟨h, fun e => (by cases e)⟩
theorem R25.mv (h : R25 Q L1 V L W) (i : Nat) (hi : 7 ≠ i) {x : Value} : R25 Q L1 (updV V i x) (upd L i) W := ⟨h.q, by rw [upd_other _ hi, updV_other _ _ hi]; exact h.l⟩
theorem R25.to (h : R25 Q L1 V L W) (i : Nat) (hi : 7 ≠ i) {x : Value} (hQ : Q W → Q W') (hL : ∀ y, L1 y W → L1 y W') : R25 Q L1 (updV V i x) (upd L i) W' := ⟨hQ h.q, by rw [upd_other _ hi, updV_other _ _ hi]; exact fun e => hL _ (h.l e)⟩
theorem R25.s7 (h : R25 Q L1 V L W) {x : Value} (hQ : Q W → Q W') (hx : Q W → L1 x W') : R25 Q L1 (updV V 7 x) (upd L 7) W' := ⟨hQ h.q, fun _ => by rw [updV_same]; exact hx h.q⟩
end
end Go.Proofs.Ytjckpammcgeloaa
