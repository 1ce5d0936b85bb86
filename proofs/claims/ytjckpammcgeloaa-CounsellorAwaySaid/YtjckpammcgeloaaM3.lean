/-
  Desks: Check.
  Conditions: those that each theorem names.
-/
import Derived.Test.YtjckpammcgeloaaM2
set_option linter.unusedVariables false
set_option linter.unusedSimpArgs false
namespace Go.Proofs.Ytjckpammcgeloaa
open Go.RowKit

def prevB (C : List CouD) (k : Nat) : Bool := decide (k = 0) || decide ((cAt C (k - 1)).id < (cAt C k).id)
def couOK (C : List CouD) (k : Nat) : Bool := inI (cAt C k).id 1 1048576 && (prevB C k && (inI ((cAt C k).o.size : Int) 1 32 && (decide ((cAt C k).away.length ≤ 256) && !((cAt C k).away.any lngB))))
def cousK (C : List CouD) : Nat → Bool
 | 0 => true
 | k + 1 => cousK C k && couOK C k
def prevK (K : List CaseD) (k : Nat) : Bool := decide (k = 0) || decide ((kAt K (k - 1)).t ≤ (kAt K k).t)
def casOK (D : DeskD) (k : Nat) : Bool := decide (0 ≤ fndC D.cs (kAt D.ks k).c) && (eqS (cAt D.cs (fndC D.cs (kAt D.ks k).c).toNat).o (kAt D.ks k).o && (!lngB (kAt D.ks k).r && (inI (kAt D.ks k).t 0 1099511627776 && prevK D.ks k)))
def casK (D : DeskD) : Nat → Bool
 | 0 => true
 | k + 1 => casK D k && casOK D k
def chkB (D : DeskD) : Bool := (cousK D.cs D.cs.length && decide (D.cs.length ≤ 32)) && (decide (D.ks.length ≤ 256) && casK D D.ks.length)
def chkE (D : DeskD) : Int := if chkB D = true then 0 else 1
theorem cousK_bad {C : List CouD} {k : Nat} (h : couOK C k = false) : ∀ n, k < n → cousK C n = false
 | n + 1, hn => by
  unfold cousK
  by_cases hk : k = n
  ·
   subst hk; rw [h, Bool.and_false]
  ·
   rw [cousK_bad h n (by omega), Bool.false_and]
theorem casK_bad {D : DeskD} {k : Nat} (h : casOK D k = false) : ∀ n, k < n → casK D n = false
 | n + 1, hn => by
  unfold casK
  by_cases hk : k = n
  ·
   subst hk; rw [h, Bool.and_false]
  ·
   rw [casK_bad h n (by omega), Bool.false_and]
theorem chk_cou {D : DeskD} {k : Nat} (hk : k < D.cs.length) (h : couOK D.cs k = false) : 1 = chkE D := by
 unfold chkE chkB; rw [cousK_bad h _ hk]; rfl
theorem chk_cas {D : DeskD} {k : Nat} (hk : k < D.ks.length) (h : casOK D k = false) : 1 = chkE D := by
 unfold chkE chkB; rw [casK_bad h _ hk]; simp
theorem chk_lc {D : DeskD} (h : 32 < D.cs.length) : 1 = chkE D := by
 unfold chkE chkB; rw [decide_eq_false (show ¬ D.cs.length ≤ 32 by omega)]; simp
theorem chk_lk {D : DeskD} (h : 256 < D.ks.length) : 1 = chkE D := by
 unfold chkE chkB; rw [decide_eq_false (show ¬ D.ks.length ≤ 256 by omega)]; simp
theorem chk_ok {D : DeskD} (h1 : D.cs.length ≤ 32) (h2 : D.ks.length ≤ 256) (h3 : cousK D.cs D.cs.length = true) (h4 : casK D D.ks.length = true) : 0 = chkE D := by
 unfold chkE chkB; rw [decide_eq_true h1, decide_eq_true h2, h3, h4]; rfl
/-- A desk of few counsellors and cases. -/
structure DeskS (D : DeskD) : Prop where
 lc : D.cs.length ≤ 1000
 lk : D.ks.length ≤ 1000
 co : ∀ k, k < D.cs.length → (cAt D.cs k).o.size ≤ maxLen ∧ (cAt D.cs k).away.length ≤ 1000 ∧ ShortT (cAt D.cs k).away
 ca : ∀ k, k < D.ks.length → (kAt D.ks k).r.size ≤ maxLen ∧ (kAt D.ks k).o.size ≤ maxLen
section
variable {C : List CouD} {k : Nat}
theorem cou_1 (h : inI (cAt C k).id 1 1048576 = false) : couOK C k = false := by unfold couOK; rw [h]; rfl
theorem cou_2 (h : prevB C k = false) : couOK C k = false := by unfold couOK; rw [h]; simp
theorem cou_3 (h : inI ((cAt C k).o.size : Int) 1 32 = false) : couOK C k = false := by unfold couOK; rw [h]; simp
theorem cou_4 (h : ¬ (cAt C k).away.length ≤ 256) : couOK C k = false := by unfold couOK; rw [decide_eq_false h]; simp
theorem cou_5 (h : (cAt C k).away.any lngB = true) : couOK C k = false := by unfold couOK; rw [h]; simp
theorem cou_y (h1 : inI (cAt C k).id 1 1048576 = true) (h2 : prevB C k = true) (h3 : inI ((cAt C k).o.size : Int) 1 32 = true) (h4 : (cAt C k).away.length ≤ 256) (h5 : (cAt C k).away.any lngB = false) : couOK C k = true := by
 unfold couOK; rw [h1, h2, h3, decide_eq_true h4, h5]; rfl
theorem prev_0 (h : k = 0) : prevB C k = true := by unfold prevB; rw [decide_eq_true h]; rfl
theorem prev_y {m : Nat} (hk : k = m + 1) (h : (cAt C m).id < (cAt C k).id) : prevB C k = true := by
 subst hk
 unfold prevB; rw [show m + 1 - 1 = m by omega, decide_eq_true h]; simp
theorem prev_n {m : Nat} (hk : k = m + 1) (h : ¬ (cAt C m).id < (cAt C k).id) : prevB C k = false := by
 subst hk
 unfold prevB; rw [show m + 1 - 1 = m by omega, decide_eq_false h]; simp
end
section
variable {K : List CaseD} {k : Nat} {D : DeskD}
theorem prevK_0 (h : k = 0) : prevK K k = true := by unfold prevK; rw [decide_eq_true h]; rfl
theorem prevK_y {m : Nat} (hk : k = m + 1) (h : (kAt K m).t ≤ (kAt K k).t) : prevK K k = true := by
 subst hk
 unfold prevK; rw [show m + 1 - 1 = m by omega, decide_eq_true h]; simp
theorem prevK_n {m : Nat} (hk : k = m + 1) (h : ¬ (kAt K m).t ≤ (kAt K k).t) : prevK K k = false := by
 subst hk
 unfold prevK; rw [show m + 1 - 1 = m by omega, decide_eq_false h]; simp
theorem cas_1 (h : fndC D.cs (kAt D.ks k).c = -1) : casOK D k = false := by unfold casOK; rw [h]; rfl
theorem cas_2 {f : Nat} (hf : fndC D.cs (kAt D.ks k).c = f) (h : eqS (cAt D.cs f).o (kAt D.ks k).o = false) : casOK D k = false := by unfold casOK; rw [hf, Int.toNat_natCast, h]; simp
theorem cas_3 (h : lngB (kAt D.ks k).r = true) : casOK D k = false := by unfold casOK; rw [h]; simp
theorem cas_4 (h : inI (kAt D.ks k).t 0 1099511627776 = false) : casOK D k = false := by unfold casOK; rw [h]; simp
theorem cas_5 (h : prevK D.ks k = false) : casOK D k = false := by unfold casOK; rw [h]; simp
theorem cas_y {f : Nat} (hf : fndC D.cs (kAt D.ks k).c = f) (h2 : eqS (cAt D.cs f).o (kAt D.ks k).o = true) (h3 : lngB (kAt D.ks k).r = false) (h4 : inI (kAt D.ks k).t 0 1099511627776 = true) (h5 : prevK D.ks k = true) : casOK D k = true := by
 unfold casOK; rw [hf, Int.toNat_natCast, h2, h3, h4, h5]; simp
end
/-- Cells of a counsellor, of a case, in a variable. -/
structure CouC (w : World) (x : Nat) (id : Int) (o : ByteArray) (v : Value) : Prop where
 c0 : w.cell? ⟨x, 0, none⟩ = some (.int .i64 id)
 c1 : w.cell? ⟨x, 1, none⟩ = some (.string o)
 c2 : w.cell? ⟨x, 2, none⟩ = some v
theorem CouC.new (w : World) (id : Int) (o : ByteArray) (v : Value) : CouC (w.alloc (.cells #[.int .i64 id, .string o, v] 45)) w.heap.size id o v := by
 have h := heap_alloc_new w (.cells #[.int .i64 id, .string o, v] 45)
 exact ⟨by rw [cell_of_row _ _ 0 _ _ (0, 0) h]; rfl, by rw [cell_of_row _ _ 1 _ _ (0, 0) h]; rfl, by rw [cell_of_row _ _ 2 _ _ (0, 0) h]; rfl⟩
def CaseC (w : World) (x : Nat) (d : CaseD) : Prop := w.heap[x]? = some (.cells #[.int .i64 d.c, .string d.r, .string d.o, .int .i64 d.t, .bool d.s] 37 (0, 0))
section
variable {w w' : World} {x : Nat} {d : CaseD}
theorem CaseC.lt (h : CaseC w x d) : x < w.heap.size := blk_ltE h
theorem CaseC.c0 (h : CaseC w x d) : w.cell? ⟨x, 0, none⟩ = some (.int .i64 d.c) := by rw [cell_of_row w x 0 _ _ (0, 0) h]; rfl
theorem CaseC.c1 (h : CaseC w x d) : w.cell? ⟨x, 1, none⟩ = some (.string d.r) := by rw [cell_of_row w x 1 _ _ (0, 0) h]; rfl
theorem CaseC.c2 (h : CaseC w x d) : w.cell? ⟨x, 2, none⟩ = some (.string d.o) := by rw [cell_of_row w x 2 _ _ (0, 0) h]; rfl
theorem CaseC.c3 (h : CaseC w x d) : w.cell? ⟨x, 3, none⟩ = some (.int .i64 d.t) := by rw [cell_of_row w x 3 _ _ (0, 0) h]; rfl
theorem CaseC.c4 (h : CaseC w x d) : w.cell? ⟨x, 4, none⟩ = some (.bool d.s) := by rw [cell_of_row w x 4 _ _ (0, 0) h]; rfl
theorem CaseC.fz (h : CaseC w x d) (j : Nat) : w.frozen? ⟨x, j, none⟩ = false := by unfold CaseC at h; simp [World.frozen?, h]
theorem CaseC.below (h : CaseC w x d) (hb : Below w.heap.size w w') : CaseC w' x d := (hb.block x (blk_ltE h)).trans h
theorem CaseC.new (d : CaseD) (h : x = w.heap.size) : CaseC (w.alloc (.cells #[.int .i64 d.c, .string d.r, .string d.o, .int .i64 d.t, .bool d.s] 37)) x d := by subst h; exact heap_alloc_new w _
end
theorem long_is (s : ByteArray) (b : Bool) (h : lngB s = b) (w : World) (hs : s.size ≤ maxLen) : Calls Try.prog 34 #[.string s] w (Ret (.bool b) w) := by
 have h2 := long_any s w hs
 rw [h] at h2; exact h2
theorem enter_in (args : Array Value) (w : World) : (callFunc 35 args).run Try.prog w = .ok (.enter 35 args) w :=
 Go.MuLone.run_callFunc_enter Try.func35 (by kernel_rfl) rfl args w
theorem enter_anyT (args : Array Value) (w : World) : (callFunc 37 args).run Try.prog w = .ok (.enter 37 args) w :=
 Go.MuLone.run_callFunc_enter Try.func37 (by kernel_rfl) rfl args w
set_option maxRecDepth 100000 in
set_option maxHeartbeats 8000000 in
theorem check_any {P : Nat → Prop} (v : Value) (D : DeskD) (w : World) (hD : DeskR P w v D) (sD : DeskS D) :
  Calls Try.prog 18 #[v] w (RetB (.int .i64 (chkE D)) w) := by
 obtain ⟨A, ca, B, cb, rfl, h1, h2⟩ := hD
 obtain ⟨C, K⟩ := D
 have HD := Lib.hid (show DeskR P w (.agg #[.slice A C.length ca, .slice B K.length cb]) ⟨C, K⟩ from ⟨A, ca, B, cb, rfl, h1, h2⟩)
 have HC := Lib.hid h1
 have HKS := Lib.hid h2
 have HSZ := Lib.hid sD.co
 have HSK := Lib.hid sD.ca
 have lc : C.length ≤ 1000 := sD.lc
 have lk : K.length ≤ 1000 := sD.lk
 clear h1 h2 sD
 have HBAD := Lib.hid (fun k (hk : k < C.length) h => chk_cou (D := ⟨C, K⟩) (k := k) hk h)
 have HBADK := Lib.hid (fun k (hk : k < K.length) h => chk_cas (D := ⟨C, K⟩) (k := k) hk h)
 have HOK := Lib.hid (fun h1 h2 h3 h4 => chk_ok (D := ⟨C, K⟩) h1 h2 h3 h4)
 by_cases g1 : C.length ≤ 32
 ·
  by_cases g2 : K.length ≤ 256
  ·
   have g1' : ¬ (32 : Int) < (C.length : Int) := by omega
   have g2' : ¬ (256 : Int) < (K.length : Int) := by omega
   go_enter Try.func18, Try.ntmps18
   go_wp2_with fail
   refine gen_world fun w1 hw1 => ?_
   have hb1 : Below w.heap.size w w1 := by rw [hw1]; exact below_alloc _ _
   have HDC := Lib.hid (show DeskCell w1 w.heap.size (.slice A C.length ca) (.slice B K.length cb) from by rw [hw1]; exact DeskCell.new _ _ rfl)
   clear hw1
   have HB1 := Lib.hid hb1
   go_loopw [21] (fun i wr => ∃ k : Nat, k ≤ C.length ∧ i = .int .i64 k ∧ cousK C k = true ∧ Below w1.heap.size w1 wr) (fun i _ => C.length - (intOf i).toNat)
   case atStart => exact ⟨0, Nat.zero_le _, rfl, rfl, Below.refl _ _⟩
   case round =>
    obtain ⟨k, hk, rfl, hpre, hbr⟩ := hrel
    have HK := Lib.hid hpre
    have HBR := Lib.hid hbr
    have hb2 := below_trans HB1.out hbr
    have HBW := Lib.hid hb2
    clear hpre
    by_cases hlt : k < C.length
    ·
     obtain ⟨b, off, x, rfl, hbl, -, c0, c1, c2, hx⟩ := (HC.out.below hb2).elem hlt
     have hk0 : (0 : Int) ≤ (k : Int) := by omega
     have hkl : (k : Int) < (C.length : Int) := by omega
     have d0 := (HDC.out.below hbr).c0
     have d1 := (HDC.out.below hbr).c1
     have ld := (HDC.out.below hbr).lt
     clear hbr hb1
     cases q1 : inI (cAt C k).id 1 1048576 with
     | false =>
      have Q1 := Lib.hid q1
      clear q1
      have HV := Lib.hid (HBAD.out _ hlt (cou_1 Q1.out))
      have J1 := Lib.hid (show inI x.id 1 1048576 = false from by rw [hx.id]; exact Q1.out)
      clear hx
      go_wp2_with fail
      refine gen_world fun w0 hw0 => ?_
      have hb0 : Below wr.heap.size wr w0 := by rw [hw0]; exact below_alloc _ _
      have VC := Lib.hid (show CouC w0 wr.heap.size x.id x.o (.slice x.A x.n x.c) from by rw [hw0]; exact CouC.new _ _ _ _)
      have LV := Lib.hid (show wr.heap.size < w0.heap.size from by rw [hw0]; simp)
      have D0 := Lib.hid ((HDC.out.below (below_trans HBR.out hb0)).c0)
      have LD := Lib.hid ((HDC.out.below (below_trans HBR.out hb0)).lt)
      clear hw0
      refine wp_region_J2 (GI (R := Bl) [Pr.eq (.pointer (some ⟨wr.heap.size, 0, none⟩)), Pr.eq (.int .i64 (x.id)), Pr.eq (.bool false), Pr.eq (.bool true), Pr.eq (.bool true), Pr.eq undef, Pr.eq undef, Pr.eq undef, Pr.eq undef, Pr.eq undef, Pr.eq undef, Pr.eq undef, Pr.eq undef, Pr.eq undef, Pr.eq undef, Pr.eq undef, Pr.eq undef, Pr.eq undef, Pr.eq undef, Pr.eq (.bool true), Pr.eq (.bool true), Pr.eq undef, Pr.eq undef, Pr.eq undef, Pr.eq undef, Pr.eq undef, Pr.eq (.bool true), Pr.eq (.bool true), Pr.eq undef, Pr.eq undef, Pr.eq undef, Pr.eq undef, Pr.eq (.bool true), Pr.eq (.bool true), Pr.eq undef, Pr.eq undef, Pr.eq undef, Pr.eq (.bool true)] (GrS w0)) (by kernel_rfl) (by kernel_rfl) (by kernel_rfl) ?_ ?_ ?_
      case refine_1 => exact fun V => GI.start (GrS.start _ _ _)
      case refine_2 =>
       refine .cons (fun V Ld a W hLi hpre hR hI KK hK => ?_) ?_
       ·
        have o4 := (hR.old 4 (by kernel_rfl)).trans (show _ = Value.pointer (some ⟨wr.heap.size, 0, none⟩) from rfl)
        exact J_fieldAddr rfl _ (.tmp 4) 0 rfl (by rw [o4]; go_simp) (hI.u0 hK rfl)
       refine .cons (fun V Ld a W hLi hpre hR hI KK hK => ?_) ?_
       ·
        have f0 := hI.ef hR hpre 0 rfl rfl rfl (by kernel_rfl)
        have c := (hI.st.bl.cell LV.out).trans VC.out.c0
        exact J_load rfl _ (.tmp 26) rfl (by rw [f0]; go_simp) (hI.u0 hK rfl)
       refine .cons (fun V Ld a W hLi hpre hR hI KK hK => ?_) ?_
       ·
        have f1 := hI.ef hR hpre 1 rfl rfl rfl (by kernel_rfl)
        refine J_call rfl _ _ _ rfl enter_in (by simp only [List.map_toArray, List.map_cons, List.map_nil, f1]; rfl) (in_no _ _ _ J1.out W) ?_
        rintro e w' ⟨rfl, rfl⟩
        exact ⟨_, rfl, (hI.u0 hK rfl)⟩
       refine .cons (fun V Ld a W hLi hpre hR hI KK hK => ?_) ?_
       ·
        have f2 := hI.ef hR hpre 2 rfl rfl rfl (by kernel_rfl)
        exact G_unOp rfl .not _ (.tmp 28) rfl (by rw [f2]; go_simp) (hI.u0 hK rfl)
       refine .mf 3 rfl rfl rfl rfl rfl (by kernel_rfl) rfl ?_
       refine .un 4 rfl rfl rfl rfl (by kernel_rfl) rfl ?_
       refine .un 4 rfl rfl rfl rfl (by kernel_rfl) rfl ?_
       refine .un 4 rfl rfl rfl rfl (by kernel_rfl) rfl ?_
       refine .unU 7 rfl rfl rfl rfl (by kernel_rfl) rfl ?_
       refine .unU 7 rfl rfl rfl rfl (by kernel_rfl) rfl ?_
       refine .unU 7 rfl rfl rfl rfl (by kernel_rfl) rfl ?_
       refine .unU 7 rfl rfl rfl rfl (by kernel_rfl) rfl ?_
       refine .unU 7 rfl rfl rfl rfl (by kernel_rfl) rfl ?_
       refine .unU 7 rfl rfl rfl rfl (by kernel_rfl) rfl ?_
       refine .unU 7 rfl rfl rfl rfl (by kernel_rfl) rfl ?_
       refine .unU 7 rfl rfl rfl rfl (by kernel_rfl) rfl ?_
       refine .unU 7 rfl rfl rfl rfl (by kernel_rfl) rfl ?_
       refine .unU 7 rfl rfl rfl rfl (by kernel_rfl) rfl ?_
       refine .un 4 rfl rfl rfl rfl (by kernel_rfl) rfl ?_
       refine .cons (fun V Ld a W hLi hpre hR hI KK hK => ?_) ?_
       ·
        have f4 := hI.ef hR hpre 4 rfl rfl rfl (by kernel_rfl)
        exact G_pick rfl (.tmp 30) (.const (.bool true)) (.tmp 44) rfl f4 (show _ = _ from rfl) (hI.u0 hK rfl)
       refine .mf 19 rfl rfl rfl rfl rfl (by kernel_rfl) rfl ?_
       refine .un 20 rfl rfl rfl rfl (by kernel_rfl) rfl ?_
       refine .un 20 rfl rfl rfl rfl (by kernel_rfl) rfl ?_
       refine .un 20 rfl rfl rfl rfl (by kernel_rfl) rfl ?_
       refine .un 20 rfl rfl rfl rfl (by kernel_rfl) rfl ?_
       refine .un 20 rfl rfl rfl rfl (by kernel_rfl) rfl ?_
       refine .cons (fun V Ld a W hLi hpre hR hI KK hK => ?_) ?_
       ·
        have f20 := hI.ef hR hpre 20 rfl rfl rfl (by kernel_rfl)
        exact G_pick rfl (.tmp 46) (.const (.bool true)) (.tmp 51) rfl f20 (show _ = _ from rfl) (hI.u0 hK rfl)
       refine .mf 26 rfl rfl rfl rfl rfl (by kernel_rfl) rfl ?_
       refine .un 27 rfl rfl rfl rfl (by kernel_rfl) rfl ?_
       refine .un 27 rfl rfl rfl rfl (by kernel_rfl) rfl ?_
       refine .un 27 rfl rfl rfl rfl (by kernel_rfl) rfl ?_
       refine .un 27 rfl rfl rfl rfl (by kernel_rfl) rfl ?_
       refine .cons (fun V Ld a W hLi hpre hR hI KK hK => ?_) ?_
       ·
        have f27 := hI.ef hR hpre 27 rfl rfl rfl (by kernel_rfl)
        exact G_pick rfl (.tmp 53) (.const (.bool true)) (.tmp 57) rfl f27 (show _ = _ from rfl) (hI.u0 hK rfl)
       refine .mf 32 rfl rfl rfl rfl rfl (by kernel_rfl) rfl ?_
       refine .un 33 rfl rfl rfl rfl (by kernel_rfl) rfl ?_
       refine .un 33 rfl rfl rfl rfl (by kernel_rfl) rfl ?_
       refine .un 33 rfl rfl rfl rfl (by kernel_rfl) rfl ?_
       refine .cons (fun V Ld a W hLi hpre hR hI KK hK => ?_) trivial
       ·
        have f33 := hI.ef hR hpre 33 rfl rfl rfl (by kernel_rfl)
        exact G_pick rfl (.tmp 59) (.const (.bool true)) (.tmp 62) rfl f33 (show _ = _ from rfl) (hI.u0 hK rfl)
      case refine_3 =>
       intro V Ld w9 hLd hI
       have e9 : V 37 = .bool true := hI.val 37 _ rfl (hLd 37 (by decide))
       have hb9 := hI.st.bl
       clear hI hLd
       simp only [finL, putL, Act.put, Nat.reduceAdd]
       rw [e9]
       clear e9
       generalize V 0 = v0, V 1 = v1
       generalize V 2 = v2, V 3 = v3
       generalize V 4 = v4, V 5 = v5
       generalize V 6 = v6, V 7 = v7
       generalize V 8 = v8, V 9 = v9
       generalize V 10 = v10, V 11 = v11
       generalize V 12 = v12, V 13 = v13
       generalize V 14 = v14, V 15 = v15
       generalize V 16 = v16, V 17 = v17
       generalize V 18 = v18, V 19 = v19
       generalize V 20 = v20, V 21 = v21
       generalize V 22 = v22, V 23 = v23
       generalize V 24 = v24, V 25 = v25
       generalize V 26 = v26, V 27 = v27
       generalize V 28 = v28, V 29 = v29
       generalize V 30 = v30, V 31 = v31
       generalize V 32 = v32, V 33 = v33
       generalize V 34 = v34, V 35 = v35, V 36 = v36
       clear V
       simp only [List.setIfInBounds_toArray, List.set_cons_succ, List.set_cons_zero]
       go_wp2_with fail
       go_ret
       exact RetB.int HV.out (HBW.out.trans ((hb0.trans (hb9.mono hb0.size)).mono HBW.out.size))
     | true =>
      have Q1 := Lib.hid q1
      clear q1
      rcases Nat.eq_zero_or_pos k with hz | hz
      ·
       have HZ := Lib.hid hz
       have Z1 := Lib.hid (show (k : Int) ≤ 0 by omega)
       clear hz
       cases q3 : inI ((cAt C k).o.size : Int) 1 32 with
       | false =>
        have Q3 := Lib.hid q3
        clear q3
        have HV := Lib.hid (HBAD.out _ hlt (cou_3 Q3.out))
        have J1 := Lib.hid (show inI x.id 1 1048576 = true from by rw [hx.id]; exact Q1.out)
        have J3 := Lib.hid (show inI (x.o.size : Int) 1 32 = false from by rw [hx.o]; exact Q3.out)
        clear hx
        go_wp2_with fail
        refine gen_world fun w0 hw0 => ?_
        have hb0 : Below wr.heap.size wr w0 := by rw [hw0]; exact below_alloc _ _
        have VC := Lib.hid (show CouC w0 wr.heap.size x.id x.o (.slice x.A x.n x.c) from by rw [hw0]; exact CouC.new _ _ _ _)
        have LV := Lib.hid (show wr.heap.size < w0.heap.size from by rw [hw0]; simp)
        have D0 := Lib.hid ((HDC.out.below (below_trans HBR.out hb0)).c0)
        have LD := Lib.hid ((HDC.out.below (below_trans HBR.out hb0)).lt)
        clear hw0
        refine wp_region_J2 (GI (R := Bl) [Pr.eq (.pointer (some ⟨wr.heap.size, 0, none⟩)), Pr.eq (.int .i64 (x.id)), Pr.eq (.bool true), Pr.eq (.bool false), Pr.eq (.bool false), Pr.eq (.int .i64 ((k : Int))), Pr.eq (.bool false), Pr.eq (.bool false), Pr.eq undef, Pr.eq undef, Pr.eq undef, Pr.eq undef, Pr.eq undef, Pr.eq undef, Pr.eq undef, Pr.eq undef, Pr.eq undef, Pr.eq undef, Pr.eq (.bool false), Pr.eq (.bool false), Pr.eq (.bool false), Pr.eq (.pointer (some ⟨wr.heap.size, 1, none⟩)), Pr.eq (.string (x.o)), Pr.eq (.int .i64 ((x.o.size : Int))), Pr.eq (.bool false), Pr.eq (.bool true), Pr.eq (.bool true), Pr.eq (.bool true), Pr.eq undef, Pr.eq undef, Pr.eq undef, Pr.eq undef, Pr.eq (.bool true), Pr.eq (.bool true), Pr.eq undef, Pr.eq undef, Pr.eq undef, Pr.eq (.bool true)] (GrS w0)) (by kernel_rfl) (by kernel_rfl) (by kernel_rfl) ?_ ?_ ?_
        case refine_1 => exact fun V => GI.start (GrS.start _ _ _)
        case refine_2 =>
         refine .cons (fun V Ld a W hLi hpre hR hI KK hK => ?_) ?_
         ·
          have o4 := (hR.old 4 (by kernel_rfl)).trans (show _ = Value.pointer (some ⟨wr.heap.size, 0, none⟩) from rfl)
          exact J_fieldAddr rfl _ (.tmp 4) 0 rfl (by rw [o4]; go_simp) (hI.u0 hK rfl)
         refine .cons (fun V Ld a W hLi hpre hR hI KK hK => ?_) ?_
         ·
          have f0 := hI.ef hR hpre 0 rfl rfl rfl (by kernel_rfl)
          have c := (hI.st.bl.cell LV.out).trans VC.out.c0
          exact J_load rfl _ (.tmp 26) rfl (by rw [f0]; go_simp) (hI.u0 hK rfl)
         refine .cons (fun V Ld a W hLi hpre hR hI KK hK => ?_) ?_
         ·
          have f1 := hI.ef hR hpre 1 rfl rfl rfl (by kernel_rfl)
          refine J_call rfl _ _ _ rfl enter_in (by simp only [List.map_toArray, List.map_cons, List.map_nil, f1]; rfl) (in_yes _ _ _ J1.out W) ?_
          rintro e w' ⟨rfl, rfl⟩
          exact ⟨_, rfl, (hI.u0 hK rfl)⟩
         refine .cons (fun V Ld a W hLi hpre hR hI KK hK => ?_) ?_
         ·
          have f2 := hI.ef hR hpre 2 rfl rfl rfl (by kernel_rfl)
          exact G_unOp rfl .not _ (.tmp 28) rfl (by rw [f2]; go_simp) (hI.u0 hK rfl)
         refine .mf 3 rfl rfl rfl rfl rfl (by kernel_rfl) rfl ?_
         refine .cons (fun V Ld a W hLi hpre hR hI KK hK => ?_) ?_
         ·
          refine G_gw hI hR hpre 4 rfl rfl rfl rfl (by kernel_rfl) ?_
          have o3 := (hR.old 3 (by kernel_rfl)).trans (show _ = Value.int .i64 ((k : Int)) from rfl)
          exact G_move rfl (.tmp 3) rfl o3 (hI.u0 hK rfl)
         refine .cons (fun V Ld a W hLi hpre hR hI KK hK => ?_) ?_
         ·
          refine G_gw hI hR hpre 4 rfl rfl rfl rfl (by kernel_rfl) ?_
          have f5 := hI.ef hR hpre 5 rfl rfl rfl (by kernel_rfl)
          exact J_binOp rfl .gtr _ (.tmp 31) (.const (.int .i64 0)) _ rfl (by rw [f5]; exact bf_gtr _ _ _ _ W Z1.out) (hI.u0 hK rfl)
         refine .cons (fun V Ld a W hLi hpre hR hI KK hK => ?_) ?_
         ·
          refine G_gw hI hR hpre 4 rfl rfl rfl rfl (by kernel_rfl) ?_
          have f6 := hI.ef hR hpre 6 rfl rfl rfl (by kernel_rfl)
          exact G_move rfl (.tmp 32) rfl f6 (hI.u0 hK rfl)
         refine .un 7 rfl rfl rfl rfl (by kernel_rfl) rfl ?_
         refine .un 7 rfl rfl rfl rfl (by kernel_rfl) rfl ?_
         refine .un 7 rfl rfl rfl rfl (by kernel_rfl) rfl ?_
         refine .un 7 rfl rfl rfl rfl (by kernel_rfl) rfl ?_
         refine .un 7 rfl rfl rfl rfl (by kernel_rfl) rfl ?_
         refine .un 7 rfl rfl rfl rfl (by kernel_rfl) rfl ?_
         refine .un 7 rfl rfl rfl rfl (by kernel_rfl) rfl ?_
         refine .un 7 rfl rfl rfl rfl (by kernel_rfl) rfl ?_
         refine .un 7 rfl rfl rfl rfl (by kernel_rfl) rfl ?_
         refine .un 7 rfl rfl rfl rfl (by kernel_rfl) rfl ?_
         refine .cons (fun V Ld a W hLi hpre hR hI KK hK => ?_) ?_
         ·
          refine G_gw hI hR hpre 4 rfl rfl rfl rfl (by kernel_rfl) ?_
          have f7 := hI.ef hR hpre 7 rfl rfl rfl (by kernel_rfl)
          exact G_pick rfl (.tmp 33) (.tmp 43) (.const (.bool false)) rfl f7 (show _ = _ from rfl) (hI.u0 hK rfl)
         refine .cons (fun V Ld a W hLi hpre hR hI KK hK => ?_) ?_
         ·
          have f4 := hI.ef hR hpre 4 rfl rfl rfl (by kernel_rfl)
          have f18 := hI.ef hR hpre 18 rfl rfl rfl (by kernel_rfl)
          exact G_pick rfl (.tmp 30) (.const (.bool true)) (.tmp 44) rfl f4 (show _ = _ from f18) (hI.u0 hK rfl)
         refine .mf 19 rfl rfl rfl rfl rfl (by kernel_rfl) rfl ?_
         refine .cons (fun V Ld a W hLi hpre hR hI KK hK => ?_) ?_
         ·
          refine G_gw hI hR hpre 20 rfl rfl rfl rfl (by kernel_rfl) ?_
          have o4 := (hR.old 4 (by kernel_rfl)).trans (show _ = Value.pointer (some ⟨wr.heap.size, 0, none⟩) from rfl)
          exact J_fieldAddr rfl _ (.tmp 4) 1 rfl (by rw [o4]; go_simp) (hI.u0 hK rfl)
         refine .cons (fun V Ld a W hLi hpre hR hI KK hK => ?_) ?_
         ·
          refine G_gw hI hR hpre 20 rfl rfl rfl rfl (by kernel_rfl) ?_
          have f21 := hI.ef hR hpre 21 rfl rfl rfl (by kernel_rfl)
          have c := (hI.st.bl.cell LV.out).trans VC.out.c1
          exact J_load rfl _ (.tmp 47) rfl (by rw [f21]; go_simp) (hI.u0 hK rfl)
         refine .cons (fun V Ld a W hLi hpre hR hI KK hK => ?_) ?_
         ·
          refine G_gw hI hR hpre 20 rfl rfl rfl rfl (by kernel_rfl) ?_
          have f22 := hI.ef hR hpre 22 rfl rfl rfl (by kernel_rfl)
          exact G_len rfl (.tmp 48) _ rfl (by rw [f22]; go_simp) (hI.u0 hK rfl)
         refine .cons (fun V Ld a W hLi hpre hR hI KK hK => ?_) ?_
         ·
          refine G_gw hI hR hpre 20 rfl rfl rfl rfl (by kernel_rfl) ?_
          have f23 := hI.ef hR hpre 23 rfl rfl rfl (by kernel_rfl)
          refine J_call rfl _ _ _ rfl enter_in (by simp only [List.map_toArray, List.map_cons, List.map_nil, f23]; rfl) (in_no _ _ _ J3.out W) ?_
          rintro e w' ⟨rfl, rfl⟩
          exact ⟨_, rfl, (hI.u0 hK rfl)⟩
         refine .cons (fun V Ld a W hLi hpre hR hI KK hK => ?_) ?_
         ·
          refine G_gw hI hR hpre 20 rfl rfl rfl rfl (by kernel_rfl) ?_
          have f24 := hI.ef hR hpre 24 rfl rfl rfl (by kernel_rfl)
          exact G_unOp rfl .not _ (.tmp 50) rfl (by rw [f24]; go_simp) (hI.u0 hK rfl)
         refine .cons (fun V Ld a W hLi hpre hR hI KK hK => ?_) ?_
         ·
          have f20 := hI.ef hR hpre 20 rfl rfl rfl (by kernel_rfl)
          have f25 := hI.ef hR hpre 25 rfl rfl rfl (by kernel_rfl)
          exact G_pick rfl (.tmp 46) (.const (.bool true)) (.tmp 51) rfl f20 (show _ = _ from f25) (hI.u0 hK rfl)
         refine .mf 26 rfl rfl rfl rfl rfl (by kernel_rfl) rfl ?_
         refine .un 27 rfl rfl rfl rfl (by kernel_rfl) rfl ?_
         refine .un 27 rfl rfl rfl rfl (by kernel_rfl) rfl ?_
         refine .un 27 rfl rfl rfl rfl (by kernel_rfl) rfl ?_
         refine .un 27 rfl rfl rfl rfl (by kernel_rfl) rfl ?_
         refine .cons (fun V Ld a W hLi hpre hR hI KK hK => ?_) ?_
         ·
          have f27 := hI.ef hR hpre 27 rfl rfl rfl (by kernel_rfl)
          exact G_pick rfl (.tmp 53) (.const (.bool true)) (.tmp 57) rfl f27 (show _ = _ from rfl) (hI.u0 hK rfl)
         refine .mf 32 rfl rfl rfl rfl rfl (by kernel_rfl) rfl ?_
         refine .un 33 rfl rfl rfl rfl (by kernel_rfl) rfl ?_
         refine .un 33 rfl rfl rfl rfl (by kernel_rfl) rfl ?_
         refine .un 33 rfl rfl rfl rfl (by kernel_rfl) rfl ?_
         refine .cons (fun V Ld a W hLi hpre hR hI KK hK => ?_) trivial
         ·
          have f33 := hI.ef hR hpre 33 rfl rfl rfl (by kernel_rfl)
          exact G_pick rfl (.tmp 59) (.const (.bool true)) (.tmp 62) rfl f33 (show _ = _ from rfl) (hI.u0 hK rfl)
        case refine_3 =>
         intro V Ld w9 hLd hI
         have e9 : V 37 = .bool true := hI.val 37 _ rfl (hLd 37 (by decide))
         have hb9 := hI.st.bl
         clear hI hLd
         simp only [finL, putL, Act.put, Nat.reduceAdd]
         rw [e9]
         clear e9
         generalize V 0 = v0, V 1 = v1
         generalize V 2 = v2, V 3 = v3
         generalize V 4 = v4, V 5 = v5
         generalize V 6 = v6, V 7 = v7
         generalize V 8 = v8, V 9 = v9
         generalize V 10 = v10, V 11 = v11
         generalize V 12 = v12, V 13 = v13
         generalize V 14 = v14, V 15 = v15
         generalize V 16 = v16, V 17 = v17
         generalize V 18 = v18, V 19 = v19
         generalize V 20 = v20, V 21 = v21
         generalize V 22 = v22, V 23 = v23
         generalize V 24 = v24, V 25 = v25
         generalize V 26 = v26, V 27 = v27
         generalize V 28 = v28, V 29 = v29
         generalize V 30 = v30, V 31 = v31
         generalize V 32 = v32, V 33 = v33
         generalize V 34 = v34, V 35 = v35, V 36 = v36
         clear V
         simp only [List.setIfInBounds_toArray, List.set_cons_succ, List.set_cons_zero]
         go_wp2_with fail
         go_ret
         exact RetB.int HV.out (HBW.out.trans ((hb0.trans (hb9.mono hb0.size)).mono HBW.out.size))
       | true =>
        have Q3 := Lib.hid q3
        clear q3
        by_cases q4 : (cAt C k).away.length ≤ 256
        ·
         have Q4 := Lib.hid q4
         clear q4
         cases q5 : (cAt C k).away.any lngB with
         | true =>
          have Q5 := Lib.hid q5
          clear q5
          have HV := Lib.hid (HBAD.out _ hlt (cou_5 Q5.out))
          have J1 := Lib.hid (show inI x.id 1 1048576 = true from by rw [hx.id]; exact Q1.out)
          have J3 := Lib.hid (show inI (x.o.size : Int) 1 32 = true from by rw [hx.o]; exact Q3.out)
          have J4 := Lib.hid (show (x.n : Int) ≤ 256 from by have := Q4.out; have := hx.n; omega)
          have HAL := Lib.hid (fun W (hb : Below wr.heap.size wr W) => (show Calls Try.prog 37 #[.slice x.A x.n x.c, .func (.func 34) #[] #[]] W (Ret (.bool true) W) from by
           have h := anyLong_any x.A (cAt C k).away x.c W (hx.away.keep (Kpt.below hb)) (by have := HSZ.out k hlt; omega) (HSZ.out k hlt).2.2
           rw [Q5.out, ← hx.n] at h; exact h))
          clear hx
          go_wp2_with fail
          refine gen_world fun w0 hw0 => ?_
          have hb0 : Below wr.heap.size wr w0 := by rw [hw0]; exact below_alloc _ _
          have VC := Lib.hid (show CouC w0 wr.heap.size x.id x.o (.slice x.A x.n x.c) from by rw [hw0]; exact CouC.new _ _ _ _)
          have LV := Lib.hid (show wr.heap.size < w0.heap.size from by rw [hw0]; simp)
          have D0 := Lib.hid ((HDC.out.below (below_trans HBR.out hb0)).c0)
          have LD := Lib.hid ((HDC.out.below (below_trans HBR.out hb0)).lt)
          clear hw0
          refine wp_region_J2 (GI (R := Bl) [Pr.eq (.pointer (some ⟨wr.heap.size, 0, none⟩)), Pr.eq (.int .i64 (x.id)), Pr.eq (.bool true), Pr.eq (.bool false), Pr.eq (.bool false), Pr.eq (.int .i64 ((k : Int))), Pr.eq (.bool false), Pr.eq (.bool false), Pr.eq undef, Pr.eq undef, Pr.eq undef, Pr.eq undef, Pr.eq undef, Pr.eq undef, Pr.eq undef, Pr.eq undef, Pr.eq undef, Pr.eq undef, Pr.eq (.bool false), Pr.eq (.bool false), Pr.eq (.bool false), Pr.eq (.pointer (some ⟨wr.heap.size, 1, none⟩)), Pr.eq (.string (x.o)), Pr.eq (.int .i64 ((x.o.size : Int))), Pr.eq (.bool true), Pr.eq (.bool false), Pr.eq (.bool false), Pr.eq (.bool false), Pr.eq (.pointer (some ⟨wr.heap.size, 2, none⟩)), Pr.eq (.slice x.A x.n x.c), Pr.eq (.int .i64 ((x.n : Int))), Pr.eq (.bool false), Pr.eq (.bool false), Pr.eq (.bool false), Pr.eq (.pointer (some ⟨wr.heap.size, 2, none⟩)), Pr.eq (.slice x.A x.n x.c), Pr.eq (.bool true), Pr.eq (.bool true)] (GrS w0)) (by kernel_rfl) (by kernel_rfl) (by kernel_rfl) ?_ ?_ ?_
          case refine_1 => exact fun V => GI.start (GrS.start _ _ _)
          case refine_2 =>
           refine .cons (fun V Ld a W hLi hpre hR hI KK hK => ?_) ?_
           ·
            have o4 := (hR.old 4 (by kernel_rfl)).trans (show _ = Value.pointer (some ⟨wr.heap.size, 0, none⟩) from rfl)
            exact J_fieldAddr rfl _ (.tmp 4) 0 rfl (by rw [o4]; go_simp) (hI.u0 hK rfl)
           refine .cons (fun V Ld a W hLi hpre hR hI KK hK => ?_) ?_
           ·
            have f0 := hI.ef hR hpre 0 rfl rfl rfl (by kernel_rfl)
            have c := (hI.st.bl.cell LV.out).trans VC.out.c0
            exact J_load rfl _ (.tmp 26) rfl (by rw [f0]; go_simp) (hI.u0 hK rfl)
           refine .cons (fun V Ld a W hLi hpre hR hI KK hK => ?_) ?_
           ·
            have f1 := hI.ef hR hpre 1 rfl rfl rfl (by kernel_rfl)
            refine J_call rfl _ _ _ rfl enter_in (by simp only [List.map_toArray, List.map_cons, List.map_nil, f1]; rfl) (in_yes _ _ _ J1.out W) ?_
            rintro e w' ⟨rfl, rfl⟩
            exact ⟨_, rfl, (hI.u0 hK rfl)⟩
           refine .cons (fun V Ld a W hLi hpre hR hI KK hK => ?_) ?_
           ·
            have f2 := hI.ef hR hpre 2 rfl rfl rfl (by kernel_rfl)
            exact G_unOp rfl .not _ (.tmp 28) rfl (by rw [f2]; go_simp) (hI.u0 hK rfl)
           refine .mf 3 rfl rfl rfl rfl rfl (by kernel_rfl) rfl ?_
           refine .cons (fun V Ld a W hLi hpre hR hI KK hK => ?_) ?_
           ·
            refine G_gw hI hR hpre 4 rfl rfl rfl rfl (by kernel_rfl) ?_
            have o3 := (hR.old 3 (by kernel_rfl)).trans (show _ = Value.int .i64 ((k : Int)) from rfl)
            exact G_move rfl (.tmp 3) rfl o3 (hI.u0 hK rfl)
           refine .cons (fun V Ld a W hLi hpre hR hI KK hK => ?_) ?_
           ·
            refine G_gw hI hR hpre 4 rfl rfl rfl rfl (by kernel_rfl) ?_
            have f5 := hI.ef hR hpre 5 rfl rfl rfl (by kernel_rfl)
            exact J_binOp rfl .gtr _ (.tmp 31) (.const (.int .i64 0)) _ rfl (by rw [f5]; exact bf_gtr _ _ _ _ W Z1.out) (hI.u0 hK rfl)
           refine .cons (fun V Ld a W hLi hpre hR hI KK hK => ?_) ?_
           ·
            refine G_gw hI hR hpre 4 rfl rfl rfl rfl (by kernel_rfl) ?_
            have f6 := hI.ef hR hpre 6 rfl rfl rfl (by kernel_rfl)
            exact G_move rfl (.tmp 32) rfl f6 (hI.u0 hK rfl)
           refine .un 7 rfl rfl rfl rfl (by kernel_rfl) rfl ?_
           refine .un 7 rfl rfl rfl rfl (by kernel_rfl) rfl ?_
           refine .un 7 rfl rfl rfl rfl (by kernel_rfl) rfl ?_
           refine .un 7 rfl rfl rfl rfl (by kernel_rfl) rfl ?_
           refine .un 7 rfl rfl rfl rfl (by kernel_rfl) rfl ?_
           refine .un 7 rfl rfl rfl rfl (by kernel_rfl) rfl ?_
           refine .un 7 rfl rfl rfl rfl (by kernel_rfl) rfl ?_
           refine .un 7 rfl rfl rfl rfl (by kernel_rfl) rfl ?_
           refine .un 7 rfl rfl rfl rfl (by kernel_rfl) rfl ?_
           refine .un 7 rfl rfl rfl rfl (by kernel_rfl) rfl ?_
           refine .cons (fun V Ld a W hLi hpre hR hI KK hK => ?_) ?_
           ·
            refine G_gw hI hR hpre 4 rfl rfl rfl rfl (by kernel_rfl) ?_
            have f7 := hI.ef hR hpre 7 rfl rfl rfl (by kernel_rfl)
            exact G_pick rfl (.tmp 33) (.tmp 43) (.const (.bool false)) rfl f7 (show _ = _ from rfl) (hI.u0 hK rfl)
           refine .cons (fun V Ld a W hLi hpre hR hI KK hK => ?_) ?_
           ·
            have f4 := hI.ef hR hpre 4 rfl rfl rfl (by kernel_rfl)
            have f18 := hI.ef hR hpre 18 rfl rfl rfl (by kernel_rfl)
            exact G_pick rfl (.tmp 30) (.const (.bool true)) (.tmp 44) rfl f4 (show _ = _ from f18) (hI.u0 hK rfl)
           refine .mf 19 rfl rfl rfl rfl rfl (by kernel_rfl) rfl ?_
           refine .cons (fun V Ld a W hLi hpre hR hI KK hK => ?_) ?_
           ·
            refine G_gw hI hR hpre 20 rfl rfl rfl rfl (by kernel_rfl) ?_
            have o4 := (hR.old 4 (by kernel_rfl)).trans (show _ = Value.pointer (some ⟨wr.heap.size, 0, none⟩) from rfl)
            exact J_fieldAddr rfl _ (.tmp 4) 1 rfl (by rw [o4]; go_simp) (hI.u0 hK rfl)
           refine .cons (fun V Ld a W hLi hpre hR hI KK hK => ?_) ?_
           ·
            refine G_gw hI hR hpre 20 rfl rfl rfl rfl (by kernel_rfl) ?_
            have f21 := hI.ef hR hpre 21 rfl rfl rfl (by kernel_rfl)
            have c := (hI.st.bl.cell LV.out).trans VC.out.c1
            exact J_load rfl _ (.tmp 47) rfl (by rw [f21]; go_simp) (hI.u0 hK rfl)
           refine .cons (fun V Ld a W hLi hpre hR hI KK hK => ?_) ?_
           ·
            refine G_gw hI hR hpre 20 rfl rfl rfl rfl (by kernel_rfl) ?_
            have f22 := hI.ef hR hpre 22 rfl rfl rfl (by kernel_rfl)
            exact G_len rfl (.tmp 48) _ rfl (by rw [f22]; go_simp) (hI.u0 hK rfl)
           refine .cons (fun V Ld a W hLi hpre hR hI KK hK => ?_) ?_
           ·
            refine G_gw hI hR hpre 20 rfl rfl rfl rfl (by kernel_rfl) ?_
            have f23 := hI.ef hR hpre 23 rfl rfl rfl (by kernel_rfl)
            refine J_call rfl _ _ _ rfl enter_in (by simp only [List.map_toArray, List.map_cons, List.map_nil, f23]; rfl) (in_yes _ _ _ J3.out W) ?_
            rintro e w' ⟨rfl, rfl⟩
            exact ⟨_, rfl, (hI.u0 hK rfl)⟩
           refine .cons (fun V Ld a W hLi hpre hR hI KK hK => ?_) ?_
           ·
            refine G_gw hI hR hpre 20 rfl rfl rfl rfl (by kernel_rfl) ?_
            have f24 := hI.ef hR hpre 24 rfl rfl rfl (by kernel_rfl)
            exact G_unOp rfl .not _ (.tmp 50) rfl (by rw [f24]; go_simp) (hI.u0 hK rfl)
           refine .cons (fun V Ld a W hLi hpre hR hI KK hK => ?_) ?_
           ·
            have f20 := hI.ef hR hpre 20 rfl rfl rfl (by kernel_rfl)
            have f25 := hI.ef hR hpre 25 rfl rfl rfl (by kernel_rfl)
            exact G_pick rfl (.tmp 46) (.const (.bool true)) (.tmp 51) rfl f20 (show _ = _ from f25) (hI.u0 hK rfl)
           refine .mf 26 rfl rfl rfl rfl rfl (by kernel_rfl) rfl ?_
           refine .cons (fun V Ld a W hLi hpre hR hI KK hK => ?_) ?_
           ·
            refine G_gw hI hR hpre 27 rfl rfl rfl rfl (by kernel_rfl) ?_
            have o4 := (hR.old 4 (by kernel_rfl)).trans (show _ = Value.pointer (some ⟨wr.heap.size, 0, none⟩) from rfl)
            exact J_fieldAddr rfl _ (.tmp 4) 2 rfl (by rw [o4]; go_simp) (hI.u0 hK rfl)
           refine .cons (fun V Ld a W hLi hpre hR hI KK hK => ?_) ?_
           ·
            refine G_gw hI hR hpre 27 rfl rfl rfl rfl (by kernel_rfl) ?_
            have f28 := hI.ef hR hpre 28 rfl rfl rfl (by kernel_rfl)
            have c := (hI.st.bl.cell LV.out).trans VC.out.c2
            exact J_load rfl _ (.tmp 54) rfl (by rw [f28]; go_simp) (hI.u0 hK rfl)
           refine .cons (fun V Ld a W hLi hpre hR hI KK hK => ?_) ?_
           ·
            refine G_gw hI hR hpre 27 rfl rfl rfl rfl (by kernel_rfl) ?_
            have f29 := hI.ef hR hpre 29 rfl rfl rfl (by kernel_rfl)
            exact G_len rfl (.tmp 55) _ rfl (by rw [f29]; go_simp) (hI.u0 hK rfl)
           refine .cons (fun V Ld a W hLi hpre hR hI KK hK => ?_) ?_
           ·
            refine G_gw hI hR hpre 27 rfl rfl rfl rfl (by kernel_rfl) ?_
            have f30 := hI.ef hR hpre 30 rfl rfl rfl (by kernel_rfl)
            exact J_binOp rfl .gtr _ (.tmp 56) (.const (.int .i64 256)) _ rfl (by rw [f30]; exact bf_gtr _ _ _ _ W J4.out) (hI.u0 hK rfl)
           refine .cons (fun V Ld a W hLi hpre hR hI KK hK => ?_) ?_
           ·
            have f27 := hI.ef hR hpre 27 rfl rfl rfl (by kernel_rfl)
            have f31 := hI.ef hR hpre 31 rfl rfl rfl (by kernel_rfl)
            exact G_pick rfl (.tmp 53) (.const (.bool true)) (.tmp 57) rfl f27 (show _ = _ from f31) (hI.u0 hK rfl)
           refine .mf 32 rfl rfl rfl rfl rfl (by kernel_rfl) rfl ?_
           refine .cons (fun V Ld a W hLi hpre hR hI KK hK => ?_) ?_
           ·
            refine G_gw hI hR hpre 33 rfl rfl rfl rfl (by kernel_rfl) ?_
            have o4 := (hR.old 4 (by kernel_rfl)).trans (show _ = Value.pointer (some ⟨wr.heap.size, 0, none⟩) from rfl)
            exact J_fieldAddr rfl _ (.tmp 4) 2 rfl (by rw [o4]; go_simp) (hI.u0 hK rfl)
           refine .cons (fun V Ld a W hLi hpre hR hI KK hK => ?_) ?_
           ·
            refine G_gw hI hR hpre 33 rfl rfl rfl rfl (by kernel_rfl) ?_
            have f34 := hI.ef hR hpre 34 rfl rfl rfl (by kernel_rfl)
            have c := (hI.st.bl.cell LV.out).trans VC.out.c2
            exact J_load rfl _ (.tmp 60) rfl (by rw [f34]; go_simp) (hI.u0 hK rfl)
           refine .cons (fun V Ld a W hLi hpre hR hI KK hK => ?_) ?_
           ·
            refine G_gw hI hR hpre 33 rfl rfl rfl rfl (by kernel_rfl) ?_
            have f35 := hI.ef hR hpre 35 rfl rfl rfl (by kernel_rfl)
            refine J_call rfl _ _ _ rfl enter_anyT (by simp only [List.map_toArray, List.map_cons, List.map_nil, f35]; rfl) (HAL.out W (hb0.trans (hI.st.bl.mono hb0.size))) ?_
            rintro e w' ⟨rfl, rfl⟩
            exact ⟨_, rfl, (hI.u0 hK rfl)⟩
           refine .cons (fun V Ld a W hLi hpre hR hI KK hK => ?_) trivial
           ·
            have f33 := hI.ef hR hpre 33 rfl rfl rfl (by kernel_rfl)
            have f36 := hI.ef hR hpre 36 rfl rfl rfl (by kernel_rfl)
            exact G_pick rfl (.tmp 59) (.const (.bool true)) (.tmp 62) rfl f33 (show _ = _ from f36) (hI.u0 hK rfl)
          case refine_3 =>
           intro V Ld w9 hLd hI
           have e9 : V 37 = .bool true := hI.val 37 _ rfl (hLd 37 (by decide))
           have hb9 := hI.st.bl
           clear hI hLd
           simp only [finL, putL, Act.put, Nat.reduceAdd]
           rw [e9]
           clear e9
           generalize V 0 = v0, V 1 = v1
           generalize V 2 = v2, V 3 = v3
           generalize V 4 = v4, V 5 = v5
           generalize V 6 = v6, V 7 = v7
           generalize V 8 = v8, V 9 = v9
           generalize V 10 = v10, V 11 = v11
           generalize V 12 = v12, V 13 = v13
           generalize V 14 = v14, V 15 = v15
           generalize V 16 = v16, V 17 = v17
           generalize V 18 = v18, V 19 = v19
           generalize V 20 = v20, V 21 = v21
           generalize V 22 = v22, V 23 = v23
           generalize V 24 = v24, V 25 = v25
           generalize V 26 = v26, V 27 = v27
           generalize V 28 = v28, V 29 = v29
           generalize V 30 = v30, V 31 = v31
           generalize V 32 = v32, V 33 = v33
           generalize V 34 = v34, V 35 = v35, V 36 = v36
           clear V
           simp only [List.setIfInBounds_toArray, List.set_cons_succ, List.set_cons_zero]
           go_wp2_with fail
           go_ret
           exact RetB.int HV.out (HBW.out.trans ((hb0.trans (hb9.mono hb0.size)).mono HBW.out.size))
         | false =>
          have Q5 := Lib.hid q5
          clear q5
          have HN := Lib.hid (show cousK C (k + 1) = true from by unfold cousK; rw [HK.out, cou_y Q1.out (prev_0 HZ.out) Q3.out Q4.out Q5.out]; rfl)
          have J1 := Lib.hid (show inI x.id 1 1048576 = true from by rw [hx.id]; exact Q1.out)
          have J3 := Lib.hid (show inI (x.o.size : Int) 1 32 = true from by rw [hx.o]; exact Q3.out)
          have J4 := Lib.hid (show (x.n : Int) ≤ 256 from by have := Q4.out; have := hx.n; omega)
          have HAL := Lib.hid (fun W (hb : Below wr.heap.size wr W) => (show Calls Try.prog 37 #[.slice x.A x.n x.c, .func (.func 34) #[] #[]] W (Ret (.bool false) W) from by
           have h := anyLong_any x.A (cAt C k).away x.c W (hx.away.keep (Kpt.below hb)) (by have := HSZ.out k hlt; omega) (HSZ.out k hlt).2.2
           rw [Q5.out, ← hx.n] at h; exact h))
          clear hx
          go_wp2_with fail
          refine gen_world fun w0 hw0 => ?_
          have hb0 : Below wr.heap.size wr w0 := by rw [hw0]; exact below_alloc _ _
          have VC := Lib.hid (show CouC w0 wr.heap.size x.id x.o (.slice x.A x.n x.c) from by rw [hw0]; exact CouC.new _ _ _ _)
          have LV := Lib.hid (show wr.heap.size < w0.heap.size from by rw [hw0]; simp)
          have D0 := Lib.hid ((HDC.out.below (below_trans HBR.out hb0)).c0)
          have LD := Lib.hid ((HDC.out.below (below_trans HBR.out hb0)).lt)
          clear hw0
          refine wp_region_J2 (GI (R := Bl) [Pr.eq (.pointer (some ⟨wr.heap.size, 0, none⟩)), Pr.eq (.int .i64 (x.id)), Pr.eq (.bool true), Pr.eq (.bool false), Pr.eq (.bool false), Pr.eq (.int .i64 ((k : Int))), Pr.eq (.bool false), Pr.eq (.bool false), Pr.eq undef, Pr.eq undef, Pr.eq undef, Pr.eq undef, Pr.eq undef, Pr.eq undef, Pr.eq undef, Pr.eq undef, Pr.eq undef, Pr.eq undef, Pr.eq (.bool false), Pr.eq (.bool false), Pr.eq (.bool false), Pr.eq (.pointer (some ⟨wr.heap.size, 1, none⟩)), Pr.eq (.string (x.o)), Pr.eq (.int .i64 ((x.o.size : Int))), Pr.eq (.bool true), Pr.eq (.bool false), Pr.eq (.bool false), Pr.eq (.bool false), Pr.eq (.pointer (some ⟨wr.heap.size, 2, none⟩)), Pr.eq (.slice x.A x.n x.c), Pr.eq (.int .i64 ((x.n : Int))), Pr.eq (.bool false), Pr.eq (.bool false), Pr.eq (.bool false), Pr.eq (.pointer (some ⟨wr.heap.size, 2, none⟩)), Pr.eq (.slice x.A x.n x.c), Pr.eq (.bool false), Pr.eq (.bool false)] (GrS w0)) (by kernel_rfl) (by kernel_rfl) (by kernel_rfl) ?_ ?_ ?_
          case refine_1 => exact fun V => GI.start (GrS.start _ _ _)
          case refine_2 =>
           refine .cons (fun V Ld a W hLi hpre hR hI KK hK => ?_) ?_
           ·
            have o4 := (hR.old 4 (by kernel_rfl)).trans (show _ = Value.pointer (some ⟨wr.heap.size, 0, none⟩) from rfl)
            exact J_fieldAddr rfl _ (.tmp 4) 0 rfl (by rw [o4]; go_simp) (hI.u0 hK rfl)
           refine .cons (fun V Ld a W hLi hpre hR hI KK hK => ?_) ?_
           ·
            have f0 := hI.ef hR hpre 0 rfl rfl rfl (by kernel_rfl)
            have c := (hI.st.bl.cell LV.out).trans VC.out.c0
            exact J_load rfl _ (.tmp 26) rfl (by rw [f0]; go_simp) (hI.u0 hK rfl)
           refine .cons (fun V Ld a W hLi hpre hR hI KK hK => ?_) ?_
           ·
            have f1 := hI.ef hR hpre 1 rfl rfl rfl (by kernel_rfl)
            refine J_call rfl _ _ _ rfl enter_in (by simp only [List.map_toArray, List.map_cons, List.map_nil, f1]; rfl) (in_yes _ _ _ J1.out W) ?_
            rintro e w' ⟨rfl, rfl⟩
            exact ⟨_, rfl, (hI.u0 hK rfl)⟩
           refine .cons (fun V Ld a W hLi hpre hR hI KK hK => ?_) ?_
           ·
            have f2 := hI.ef hR hpre 2 rfl rfl rfl (by kernel_rfl)
            exact G_unOp rfl .not _ (.tmp 28) rfl (by rw [f2]; go_simp) (hI.u0 hK rfl)
           refine .mf 3 rfl rfl rfl rfl rfl (by kernel_rfl) rfl ?_
           refine .cons (fun V Ld a W hLi hpre hR hI KK hK => ?_) ?_
           ·
            refine G_gw hI hR hpre 4 rfl rfl rfl rfl (by kernel_rfl) ?_
            have o3 := (hR.old 3 (by kernel_rfl)).trans (show _ = Value.int .i64 ((k : Int)) from rfl)
            exact G_move rfl (.tmp 3) rfl o3 (hI.u0 hK rfl)
           refine .cons (fun V Ld a W hLi hpre hR hI KK hK => ?_) ?_
           ·
            refine G_gw hI hR hpre 4 rfl rfl rfl rfl (by kernel_rfl) ?_
            have f5 := hI.ef hR hpre 5 rfl rfl rfl (by kernel_rfl)
            exact J_binOp rfl .gtr _ (.tmp 31) (.const (.int .i64 0)) _ rfl (by rw [f5]; exact bf_gtr _ _ _ _ W Z1.out) (hI.u0 hK rfl)
           refine .cons (fun V Ld a W hLi hpre hR hI KK hK => ?_) ?_
           ·
            refine G_gw hI hR hpre 4 rfl rfl rfl rfl (by kernel_rfl) ?_
            have f6 := hI.ef hR hpre 6 rfl rfl rfl (by kernel_rfl)
            exact G_move rfl (.tmp 32) rfl f6 (hI.u0 hK rfl)
           refine .un 7 rfl rfl rfl rfl (by kernel_rfl) rfl ?_
           refine .un 7 rfl rfl rfl rfl (by kernel_rfl) rfl ?_
           refine .un 7 rfl rfl rfl rfl (by kernel_rfl) rfl ?_
           refine .un 7 rfl rfl rfl rfl (by kernel_rfl) rfl ?_
           refine .un 7 rfl rfl rfl rfl (by kernel_rfl) rfl ?_
           refine .un 7 rfl rfl rfl rfl (by kernel_rfl) rfl ?_
           refine .un 7 rfl rfl rfl rfl (by kernel_rfl) rfl ?_
           refine .un 7 rfl rfl rfl rfl (by kernel_rfl) rfl ?_
           refine .un 7 rfl rfl rfl rfl (by kernel_rfl) rfl ?_
           refine .un 7 rfl rfl rfl rfl (by kernel_rfl) rfl ?_
           refine .cons (fun V Ld a W hLi hpre hR hI KK hK => ?_) ?_
           ·
            refine G_gw hI hR hpre 4 rfl rfl rfl rfl (by kernel_rfl) ?_
            have f7 := hI.ef hR hpre 7 rfl rfl rfl (by kernel_rfl)
            exact G_pick rfl (.tmp 33) (.tmp 43) (.const (.bool false)) rfl f7 (show _ = _ from rfl) (hI.u0 hK rfl)
           refine .cons (fun V Ld a W hLi hpre hR hI KK hK => ?_) ?_
           ·
            have f4 := hI.ef hR hpre 4 rfl rfl rfl (by kernel_rfl)
            have f18 := hI.ef hR hpre 18 rfl rfl rfl (by kernel_rfl)
            exact G_pick rfl (.tmp 30) (.const (.bool true)) (.tmp 44) rfl f4 (show _ = _ from f18) (hI.u0 hK rfl)
           refine .mf 19 rfl rfl rfl rfl rfl (by kernel_rfl) rfl ?_
           refine .cons (fun V Ld a W hLi hpre hR hI KK hK => ?_) ?_
           ·
            refine G_gw hI hR hpre 20 rfl rfl rfl rfl (by kernel_rfl) ?_
            have o4 := (hR.old 4 (by kernel_rfl)).trans (show _ = Value.pointer (some ⟨wr.heap.size, 0, none⟩) from rfl)
            exact J_fieldAddr rfl _ (.tmp 4) 1 rfl (by rw [o4]; go_simp) (hI.u0 hK rfl)
           refine .cons (fun V Ld a W hLi hpre hR hI KK hK => ?_) ?_
           ·
            refine G_gw hI hR hpre 20 rfl rfl rfl rfl (by kernel_rfl) ?_
            have f21 := hI.ef hR hpre 21 rfl rfl rfl (by kernel_rfl)
            have c := (hI.st.bl.cell LV.out).trans VC.out.c1
            exact J_load rfl _ (.tmp 47) rfl (by rw [f21]; go_simp) (hI.u0 hK rfl)
           refine .cons (fun V Ld a W hLi hpre hR hI KK hK => ?_) ?_
           ·
            refine G_gw hI hR hpre 20 rfl rfl rfl rfl (by kernel_rfl) ?_
            have f22 := hI.ef hR hpre 22 rfl rfl rfl (by kernel_rfl)
            exact G_len rfl (.tmp 48) _ rfl (by rw [f22]; go_simp) (hI.u0 hK rfl)
           refine .cons (fun V Ld a W hLi hpre hR hI KK hK => ?_) ?_
           ·
            refine G_gw hI hR hpre 20 rfl rfl rfl rfl (by kernel_rfl) ?_
            have f23 := hI.ef hR hpre 23 rfl rfl rfl (by kernel_rfl)
            refine J_call rfl _ _ _ rfl enter_in (by simp only [List.map_toArray, List.map_cons, List.map_nil, f23]; rfl) (in_yes _ _ _ J3.out W) ?_
            rintro e w' ⟨rfl, rfl⟩
            exact ⟨_, rfl, (hI.u0 hK rfl)⟩
           refine .cons (fun V Ld a W hLi hpre hR hI KK hK => ?_) ?_
           ·
            refine G_gw hI hR hpre 20 rfl rfl rfl rfl (by kernel_rfl) ?_
            have f24 := hI.ef hR hpre 24 rfl rfl rfl (by kernel_rfl)
            exact G_unOp rfl .not _ (.tmp 50) rfl (by rw [f24]; go_simp) (hI.u0 hK rfl)
           refine .cons (fun V Ld a W hLi hpre hR hI KK hK => ?_) ?_
           ·
            have f20 := hI.ef hR hpre 20 rfl rfl rfl (by kernel_rfl)
            have f25 := hI.ef hR hpre 25 rfl rfl rfl (by kernel_rfl)
            exact G_pick rfl (.tmp 46) (.const (.bool true)) (.tmp 51) rfl f20 (show _ = _ from f25) (hI.u0 hK rfl)
           refine .mf 26 rfl rfl rfl rfl rfl (by kernel_rfl) rfl ?_
           refine .cons (fun V Ld a W hLi hpre hR hI KK hK => ?_) ?_
           ·
            refine G_gw hI hR hpre 27 rfl rfl rfl rfl (by kernel_rfl) ?_
            have o4 := (hR.old 4 (by kernel_rfl)).trans (show _ = Value.pointer (some ⟨wr.heap.size, 0, none⟩) from rfl)
            exact J_fieldAddr rfl _ (.tmp 4) 2 rfl (by rw [o4]; go_simp) (hI.u0 hK rfl)
           refine .cons (fun V Ld a W hLi hpre hR hI KK hK => ?_) ?_
           ·
            refine G_gw hI hR hpre 27 rfl rfl rfl rfl (by kernel_rfl) ?_
            have f28 := hI.ef hR hpre 28 rfl rfl rfl (by kernel_rfl)
            have c := (hI.st.bl.cell LV.out).trans VC.out.c2
            exact J_load rfl _ (.tmp 54) rfl (by rw [f28]; go_simp) (hI.u0 hK rfl)
           refine .cons (fun V Ld a W hLi hpre hR hI KK hK => ?_) ?_
           ·
            refine G_gw hI hR hpre 27 rfl rfl rfl rfl (by kernel_rfl) ?_
            have f29 := hI.ef hR hpre 29 rfl rfl rfl (by kernel_rfl)
            exact G_len rfl (.tmp 55) _ rfl (by rw [f29]; go_simp) (hI.u0 hK rfl)
           refine .cons (fun V Ld a W hLi hpre hR hI KK hK => ?_) ?_
           ·
            refine G_gw hI hR hpre 27 rfl rfl rfl rfl (by kernel_rfl) ?_
            have f30 := hI.ef hR hpre 30 rfl rfl rfl (by kernel_rfl)
            exact J_binOp rfl .gtr _ (.tmp 56) (.const (.int .i64 256)) _ rfl (by rw [f30]; exact bf_gtr _ _ _ _ W J4.out) (hI.u0 hK rfl)
           refine .cons (fun V Ld a W hLi hpre hR hI KK hK => ?_) ?_
           ·
            have f27 := hI.ef hR hpre 27 rfl rfl rfl (by kernel_rfl)
            have f31 := hI.ef hR hpre 31 rfl rfl rfl (by kernel_rfl)
            exact G_pick rfl (.tmp 53) (.const (.bool true)) (.tmp 57) rfl f27 (show _ = _ from f31) (hI.u0 hK rfl)
           refine .mf 32 rfl rfl rfl rfl rfl (by kernel_rfl) rfl ?_
           refine .cons (fun V Ld a W hLi hpre hR hI KK hK => ?_) ?_
           ·
            refine G_gw hI hR hpre 33 rfl rfl rfl rfl (by kernel_rfl) ?_
            have o4 := (hR.old 4 (by kernel_rfl)).trans (show _ = Value.pointer (some ⟨wr.heap.size, 0, none⟩) from rfl)
            exact J_fieldAddr rfl _ (.tmp 4) 2 rfl (by rw [o4]; go_simp) (hI.u0 hK rfl)
           refine .cons (fun V Ld a W hLi hpre hR hI KK hK => ?_) ?_
           ·
            refine G_gw hI hR hpre 33 rfl rfl rfl rfl (by kernel_rfl) ?_
            have f34 := hI.ef hR hpre 34 rfl rfl rfl (by kernel_rfl)
            have c := (hI.st.bl.cell LV.out).trans VC.out.c2
            exact J_load rfl _ (.tmp 60) rfl (by rw [f34]; go_simp) (hI.u0 hK rfl)
           refine .cons (fun V Ld a W hLi hpre hR hI KK hK => ?_) ?_
           ·
            refine G_gw hI hR hpre 33 rfl rfl rfl rfl (by kernel_rfl) ?_
            have f35 := hI.ef hR hpre 35 rfl rfl rfl (by kernel_rfl)
            refine J_call rfl _ _ _ rfl enter_anyT (by simp only [List.map_toArray, List.map_cons, List.map_nil, f35]; rfl) (HAL.out W (hb0.trans (hI.st.bl.mono hb0.size))) ?_
            rintro e w' ⟨rfl, rfl⟩
            exact ⟨_, rfl, (hI.u0 hK rfl)⟩
           refine .cons (fun V Ld a W hLi hpre hR hI KK hK => ?_) trivial
           ·
            have f33 := hI.ef hR hpre 33 rfl rfl rfl (by kernel_rfl)
            have f36 := hI.ef hR hpre 36 rfl rfl rfl (by kernel_rfl)
            exact G_pick rfl (.tmp 59) (.const (.bool true)) (.tmp 62) rfl f33 (show _ = _ from f36) (hI.u0 hK rfl)
          case refine_3 =>
           intro V Ld w9 hLd hI
           have e9 : V 37 = .bool false := hI.val 37 _ rfl (hLd 37 (by decide))
           have hb9 := hI.st.bl
           clear hI hLd
           simp only [finL, putL, Act.put, Nat.reduceAdd]
           rw [e9]
           clear e9
           generalize V 0 = v0, V 1 = v1
           generalize V 2 = v2, V 3 = v3
           generalize V 4 = v4, V 5 = v5
           generalize V 6 = v6, V 7 = v7
           generalize V 8 = v8, V 9 = v9
           generalize V 10 = v10, V 11 = v11
           generalize V 12 = v12, V 13 = v13
           generalize V 14 = v14, V 15 = v15
           generalize V 16 = v16, V 17 = v17
           generalize V 18 = v18, V 19 = v19
           generalize V 20 = v20, V 21 = v21
           generalize V 22 = v22, V 23 = v23
           generalize V 24 = v24, V 25 = v25
           generalize V 26 = v26, V 27 = v27
           generalize V 28 = v28, V 29 = v29
           generalize V 30 = v30, V 31 = v31
           generalize V 32 = v32, V 33 = v33
           generalize V 34 = v34, V 35 = v35, V 36 = v36
           clear V
           simp only [List.setIfInBounds_toArray, List.set_cons_succ, List.set_cons_zero]
           go_wp2_with fail
           go_roundw
           case rel => exact ⟨k + 1, by omega, by go_num, HN.out, below_trans HBR.out (below_trans hb0 hb9)⟩
           case measure => simp [intOf]; omega
        ·
         have Q4 := Lib.hid q4
         clear q4
         have HV := Lib.hid (HBAD.out _ hlt (cou_4 Q4.out))
         have J1 := Lib.hid (show inI x.id 1 1048576 = true from by rw [hx.id]; exact Q1.out)
         have J3 := Lib.hid (show inI (x.o.size : Int) 1 32 = true from by rw [hx.o]; exact Q3.out)
         have J4 := Lib.hid (show (256 : Int) < (x.n : Int) from by have := Q4.out; have := hx.n; omega)
         clear hx
         go_wp2_with fail
         refine gen_world fun w0 hw0 => ?_
         have hb0 : Below wr.heap.size wr w0 := by rw [hw0]; exact below_alloc _ _
         have VC := Lib.hid (show CouC w0 wr.heap.size x.id x.o (.slice x.A x.n x.c) from by rw [hw0]; exact CouC.new _ _ _ _)
         have LV := Lib.hid (show wr.heap.size < w0.heap.size from by rw [hw0]; simp)
         have D0 := Lib.hid ((HDC.out.below (below_trans HBR.out hb0)).c0)
         have LD := Lib.hid ((HDC.out.below (below_trans HBR.out hb0)).lt)
         clear hw0
         refine wp_region_J2 (GI (R := Bl) [Pr.eq (.pointer (some ⟨wr.heap.size, 0, none⟩)), Pr.eq (.int .i64 (x.id)), Pr.eq (.bool true), Pr.eq (.bool false), Pr.eq (.bool false), Pr.eq (.int .i64 ((k : Int))), Pr.eq (.bool false), Pr.eq (.bool false), Pr.eq undef, Pr.eq undef, Pr.eq undef, Pr.eq undef, Pr.eq undef, Pr.eq undef, Pr.eq undef, Pr.eq undef, Pr.eq undef, Pr.eq undef, Pr.eq (.bool false), Pr.eq (.bool false), Pr.eq (.bool false), Pr.eq (.pointer (some ⟨wr.heap.size, 1, none⟩)), Pr.eq (.string (x.o)), Pr.eq (.int .i64 ((x.o.size : Int))), Pr.eq (.bool true), Pr.eq (.bool false), Pr.eq (.bool false), Pr.eq (.bool false), Pr.eq (.pointer (some ⟨wr.heap.size, 2, none⟩)), Pr.eq (.slice x.A x.n x.c), Pr.eq (.int .i64 ((x.n : Int))), Pr.eq (.bool true), Pr.eq (.bool true), Pr.eq (.bool true), Pr.eq undef, Pr.eq undef, Pr.eq undef, Pr.eq (.bool true)] (GrS w0)) (by kernel_rfl) (by kernel_rfl) (by kernel_rfl) ?_ ?_ ?_
         case refine_1 => exact fun V => GI.start (GrS.start _ _ _)
         case refine_2 =>
          refine .cons (fun V Ld a W hLi hpre hR hI KK hK => ?_) ?_
          ·
           have o4 := (hR.old 4 (by kernel_rfl)).trans (show _ = Value.pointer (some ⟨wr.heap.size, 0, none⟩) from rfl)
           exact J_fieldAddr rfl _ (.tmp 4) 0 rfl (by rw [o4]; go_simp) (hI.u0 hK rfl)
          refine .cons (fun V Ld a W hLi hpre hR hI KK hK => ?_) ?_
          ·
           have f0 := hI.ef hR hpre 0 rfl rfl rfl (by kernel_rfl)
           have c := (hI.st.bl.cell LV.out).trans VC.out.c0
           exact J_load rfl _ (.tmp 26) rfl (by rw [f0]; go_simp) (hI.u0 hK rfl)
          refine .cons (fun V Ld a W hLi hpre hR hI KK hK => ?_) ?_
          ·
           have f1 := hI.ef hR hpre 1 rfl rfl rfl (by kernel_rfl)
           refine J_call rfl _ _ _ rfl enter_in (by simp only [List.map_toArray, List.map_cons, List.map_nil, f1]; rfl) (in_yes _ _ _ J1.out W) ?_
           rintro e w' ⟨rfl, rfl⟩
           exact ⟨_, rfl, (hI.u0 hK rfl)⟩
          refine .cons (fun V Ld a W hLi hpre hR hI KK hK => ?_) ?_
          ·
           have f2 := hI.ef hR hpre 2 rfl rfl rfl (by kernel_rfl)
           exact G_unOp rfl .not _ (.tmp 28) rfl (by rw [f2]; go_simp) (hI.u0 hK rfl)
          refine .mf 3 rfl rfl rfl rfl rfl (by kernel_rfl) rfl ?_
          refine .cons (fun V Ld a W hLi hpre hR hI KK hK => ?_) ?_
          ·
           refine G_gw hI hR hpre 4 rfl rfl rfl rfl (by kernel_rfl) ?_
           have o3 := (hR.old 3 (by kernel_rfl)).trans (show _ = Value.int .i64 ((k : Int)) from rfl)
           exact G_move rfl (.tmp 3) rfl o3 (hI.u0 hK rfl)
          refine .cons (fun V Ld a W hLi hpre hR hI KK hK => ?_) ?_
          ·
           refine G_gw hI hR hpre 4 rfl rfl rfl rfl (by kernel_rfl) ?_
           have f5 := hI.ef hR hpre 5 rfl rfl rfl (by kernel_rfl)
           exact J_binOp rfl .gtr _ (.tmp 31) (.const (.int .i64 0)) _ rfl (by rw [f5]; exact bf_gtr _ _ _ _ W Z1.out) (hI.u0 hK rfl)
          refine .cons (fun V Ld a W hLi hpre hR hI KK hK => ?_) ?_
          ·
           refine G_gw hI hR hpre 4 rfl rfl rfl rfl (by kernel_rfl) ?_
           have f6 := hI.ef hR hpre 6 rfl rfl rfl (by kernel_rfl)
           exact G_move rfl (.tmp 32) rfl f6 (hI.u0 hK rfl)
          refine .un 7 rfl rfl rfl rfl (by kernel_rfl) rfl ?_
          refine .un 7 rfl rfl rfl rfl (by kernel_rfl) rfl ?_
          refine .un 7 rfl rfl rfl rfl (by kernel_rfl) rfl ?_
          refine .un 7 rfl rfl rfl rfl (by kernel_rfl) rfl ?_
          refine .un 7 rfl rfl rfl rfl (by kernel_rfl) rfl ?_
          refine .un 7 rfl rfl rfl rfl (by kernel_rfl) rfl ?_
          refine .un 7 rfl rfl rfl rfl (by kernel_rfl) rfl ?_
          refine .un 7 rfl rfl rfl rfl (by kernel_rfl) rfl ?_
          refine .un 7 rfl rfl rfl rfl (by kernel_rfl) rfl ?_
          refine .un 7 rfl rfl rfl rfl (by kernel_rfl) rfl ?_
          refine .cons (fun V Ld a W hLi hpre hR hI KK hK => ?_) ?_
          ·
           refine G_gw hI hR hpre 4 rfl rfl rfl rfl (by kernel_rfl) ?_
           have f7 := hI.ef hR hpre 7 rfl rfl rfl (by kernel_rfl)
           exact G_pick rfl (.tmp 33) (.tmp 43) (.const (.bool false)) rfl f7 (show _ = _ from rfl) (hI.u0 hK rfl)
          refine .cons (fun V Ld a W hLi hpre hR hI KK hK => ?_) ?_
          ·
           have f4 := hI.ef hR hpre 4 rfl rfl rfl (by kernel_rfl)
           have f18 := hI.ef hR hpre 18 rfl rfl rfl (by kernel_rfl)
           exact G_pick rfl (.tmp 30) (.const (.bool true)) (.tmp 44) rfl f4 (show _ = _ from f18) (hI.u0 hK rfl)
          refine .mf 19 rfl rfl rfl rfl rfl (by kernel_rfl) rfl ?_
          refine .cons (fun V Ld a W hLi hpre hR hI KK hK => ?_) ?_
          ·
           refine G_gw hI hR hpre 20 rfl rfl rfl rfl (by kernel_rfl) ?_
           have o4 := (hR.old 4 (by kernel_rfl)).trans (show _ = Value.pointer (some ⟨wr.heap.size, 0, none⟩) from rfl)
           exact J_fieldAddr rfl _ (.tmp 4) 1 rfl (by rw [o4]; go_simp) (hI.u0 hK rfl)
          refine .cons (fun V Ld a W hLi hpre hR hI KK hK => ?_) ?_
          ·
           refine G_gw hI hR hpre 20 rfl rfl rfl rfl (by kernel_rfl) ?_
           have f21 := hI.ef hR hpre 21 rfl rfl rfl (by kernel_rfl)
           have c := (hI.st.bl.cell LV.out).trans VC.out.c1
           exact J_load rfl _ (.tmp 47) rfl (by rw [f21]; go_simp) (hI.u0 hK rfl)
          refine .cons (fun V Ld a W hLi hpre hR hI KK hK => ?_) ?_
          ·
           refine G_gw hI hR hpre 20 rfl rfl rfl rfl (by kernel_rfl) ?_
           have f22 := hI.ef hR hpre 22 rfl rfl rfl (by kernel_rfl)
           exact G_len rfl (.tmp 48) _ rfl (by rw [f22]; go_simp) (hI.u0 hK rfl)
          refine .cons (fun V Ld a W hLi hpre hR hI KK hK => ?_) ?_
          ·
           refine G_gw hI hR hpre 20 rfl rfl rfl rfl (by kernel_rfl) ?_
           have f23 := hI.ef hR hpre 23 rfl rfl rfl (by kernel_rfl)
           refine J_call rfl _ _ _ rfl enter_in (by simp only [List.map_toArray, List.map_cons, List.map_nil, f23]; rfl) (in_yes _ _ _ J3.out W) ?_
           rintro e w' ⟨rfl, rfl⟩
           exact ⟨_, rfl, (hI.u0 hK rfl)⟩
          refine .cons (fun V Ld a W hLi hpre hR hI KK hK => ?_) ?_
          ·
           refine G_gw hI hR hpre 20 rfl rfl rfl rfl (by kernel_rfl) ?_
           have f24 := hI.ef hR hpre 24 rfl rfl rfl (by kernel_rfl)
           exact G_unOp rfl .not _ (.tmp 50) rfl (by rw [f24]; go_simp) (hI.u0 hK rfl)
          refine .cons (fun V Ld a W hLi hpre hR hI KK hK => ?_) ?_
          ·
           have f20 := hI.ef hR hpre 20 rfl rfl rfl (by kernel_rfl)
           have f25 := hI.ef hR hpre 25 rfl rfl rfl (by kernel_rfl)
           exact G_pick rfl (.tmp 46) (.const (.bool true)) (.tmp 51) rfl f20 (show _ = _ from f25) (hI.u0 hK rfl)
          refine .mf 26 rfl rfl rfl rfl rfl (by kernel_rfl) rfl ?_
          refine .cons (fun V Ld a W hLi hpre hR hI KK hK => ?_) ?_
          ·
           refine G_gw hI hR hpre 27 rfl rfl rfl rfl (by kernel_rfl) ?_
           have o4 := (hR.old 4 (by kernel_rfl)).trans (show _ = Value.pointer (some ⟨wr.heap.size, 0, none⟩) from rfl)
           exact J_fieldAddr rfl _ (.tmp 4) 2 rfl (by rw [o4]; go_simp) (hI.u0 hK rfl)
          refine .cons (fun V Ld a W hLi hpre hR hI KK hK => ?_) ?_
          ·
           refine G_gw hI hR hpre 27 rfl rfl rfl rfl (by kernel_rfl) ?_
           have f28 := hI.ef hR hpre 28 rfl rfl rfl (by kernel_rfl)
           have c := (hI.st.bl.cell LV.out).trans VC.out.c2
           exact J_load rfl _ (.tmp 54) rfl (by rw [f28]; go_simp) (hI.u0 hK rfl)
          refine .cons (fun V Ld a W hLi hpre hR hI KK hK => ?_) ?_
          ·
           refine G_gw hI hR hpre 27 rfl rfl rfl rfl (by kernel_rfl) ?_
           have f29 := hI.ef hR hpre 29 rfl rfl rfl (by kernel_rfl)
           exact G_len rfl (.tmp 55) _ rfl (by rw [f29]; go_simp) (hI.u0 hK rfl)
          refine .cons (fun V Ld a W hLi hpre hR hI KK hK => ?_) ?_
          ·
           refine G_gw hI hR hpre 27 rfl rfl rfl rfl (by kernel_rfl) ?_
           have f30 := hI.ef hR hpre 30 rfl rfl rfl (by kernel_rfl)
           exact J_binOp rfl .gtr _ (.tmp 56) (.const (.int .i64 256)) _ rfl (by rw [f30]; exact bt_gtr _ _ _ _ W J4.out) (hI.u0 hK rfl)
          refine .cons (fun V Ld a W hLi hpre hR hI KK hK => ?_) ?_
          ·
           have f27 := hI.ef hR hpre 27 rfl rfl rfl (by kernel_rfl)
           have f31 := hI.ef hR hpre 31 rfl rfl rfl (by kernel_rfl)
           exact G_pick rfl (.tmp 53) (.const (.bool true)) (.tmp 57) rfl f27 (show _ = _ from f31) (hI.u0 hK rfl)
          refine .mf 32 rfl rfl rfl rfl rfl (by kernel_rfl) rfl ?_
          refine .un 33 rfl rfl rfl rfl (by kernel_rfl) rfl ?_
          refine .un 33 rfl rfl rfl rfl (by kernel_rfl) rfl ?_
          refine .un 33 rfl rfl rfl rfl (by kernel_rfl) rfl ?_
          refine .cons (fun V Ld a W hLi hpre hR hI KK hK => ?_) trivial
          ·
           have f33 := hI.ef hR hpre 33 rfl rfl rfl (by kernel_rfl)
           exact G_pick rfl (.tmp 59) (.const (.bool true)) (.tmp 62) rfl f33 (show _ = _ from rfl) (hI.u0 hK rfl)
         case refine_3 =>
          intro V Ld w9 hLd hI
          have e9 : V 37 = .bool true := hI.val 37 _ rfl (hLd 37 (by decide))
          have hb9 := hI.st.bl
          clear hI hLd
          simp only [finL, putL, Act.put, Nat.reduceAdd]
          rw [e9]
          clear e9
          generalize V 0 = v0, V 1 = v1
          generalize V 2 = v2, V 3 = v3
          generalize V 4 = v4, V 5 = v5
          generalize V 6 = v6, V 7 = v7
          generalize V 8 = v8, V 9 = v9
          generalize V 10 = v10, V 11 = v11
          generalize V 12 = v12, V 13 = v13
          generalize V 14 = v14, V 15 = v15
          generalize V 16 = v16, V 17 = v17
          generalize V 18 = v18, V 19 = v19
          generalize V 20 = v20, V 21 = v21
          generalize V 22 = v22, V 23 = v23
          generalize V 24 = v24, V 25 = v25
          generalize V 26 = v26, V 27 = v27
          generalize V 28 = v28, V 29 = v29
          generalize V 30 = v30, V 31 = v31
          generalize V 32 = v32, V 33 = v33
          generalize V 34 = v34, V 35 = v35, V 36 = v36
          clear V
          simp only [List.setIfInBounds_toArray, List.set_cons_succ, List.set_cons_zero]
          go_wp2_with fail
          go_ret
          exact RetB.int HV.out (HBW.out.trans ((hb0.trans (hb9.mono hb0.size)).mono HBW.out.size))
      ·
       have Z1 := Lib.hid (show (0 : Int) < (k : Int) by omega)
       obtain ⟨m, hm⟩ : ∃ m, k = m + 1 := ⟨k - 1, by omega⟩
       have hmC : m < C.length := by omega
       have hm2 : (0 : Int) ≤ (m : Int) := by omega
       have hm3 : (m : Int) < (C.length : Int) := by omega
       have HM := Lib.hid hm
       clear hm hz
       obtain ⟨b', off', y, e', -, -, y0, -, -, hy⟩ := (HC.out.below HBW.out).elem hmC
       obtain ⟨rfl, rfl⟩ : b = b' ∧ off = off' := by injection e' with e'; injection e' with e1 e2; exact ⟨e1, e2⟩
       have Y0 := Lib.hid y0
       clear e' y0
       by_cases q2 : (cAt C m).id < (cAt C k).id
       ·
        have Q2 := Lib.hid q2
        clear q2
        cases q3 : inI ((cAt C k).o.size : Int) 1 32 with
        | false =>
         have Q3 := Lib.hid q3
         clear q3
         have HV := Lib.hid (HBAD.out _ hlt (cou_3 Q3.out))
         have J1 := Lib.hid (show inI x.id 1 1048576 = true from by rw [hx.id]; exact Q1.out)
         have J2 := Lib.hid (show y.id < x.id from by have := Q2.out; rw [hx.id, hy.id]; omega)
         have J3 := Lib.hid (show inI (x.o.size : Int) 1 32 = false from by rw [hx.o]; exact Q3.out)
         clear hx
         clear hy
         go_wp2_with fail
         refine gen_world fun w0 hw0 => ?_
         have hb0 : Below wr.heap.size wr w0 := by rw [hw0]; exact below_alloc _ _
         have VC := Lib.hid (show CouC w0 wr.heap.size x.id x.o (.slice x.A x.n x.c) from by rw [hw0]; exact CouC.new _ _ _ _)
         have LV := Lib.hid (show wr.heap.size < w0.heap.size from by rw [hw0]; simp)
         have D0 := Lib.hid ((HDC.out.below (below_trans HBR.out hb0)).c0)
         have LD := Lib.hid ((HDC.out.below (below_trans HBR.out hb0)).lt)
         clear hw0
         replace Y0 := Lib.hid ((hb0.cell hbl).trans Y0.out)
         have LB := Lib.hid (Nat.lt_of_lt_of_le hbl hb0.size)
         refine wp_region_J2 (GI (R := Bl) [Pr.eq (.pointer (some ⟨wr.heap.size, 0, none⟩)), Pr.eq (.int .i64 (x.id)), Pr.eq (.bool true), Pr.eq (.bool false), Pr.eq (.bool false), Pr.eq (.int .i64 ((k : Int))), Pr.eq (.bool true), Pr.eq (.bool true), Pr.eq (.pointer (some ⟨wr.heap.size, 0, none⟩)), Pr.eq (.int .i64 (x.id)), Pr.eq (.pointer (some ⟨w.heap.size, 0, none⟩)), Pr.eq (.slice (some ⟨b, off, none⟩) C.length ca), Pr.eq (.int .i64 ((k : Int))), Pr.eq (.int .i64 ((m : Int))), Pr.eq (.pointer (some ⟨b, off + m * 3, none⟩)), Pr.eq (.pointer (some ⟨b, off + m * 3, none⟩)), Pr.eq (.int .i64 (y.id)), Pr.eq (.bool false), Pr.eq (.bool false), Pr.eq (.bool false), Pr.eq (.bool false), Pr.eq (.pointer (some ⟨wr.heap.size, 1, none⟩)), Pr.eq (.string (x.o)), Pr.eq (.int .i64 ((x.o.size : Int))), Pr.eq (.bool false), Pr.eq (.bool true), Pr.eq (.bool true), Pr.eq (.bool true), Pr.eq undef, Pr.eq undef, Pr.eq undef, Pr.eq undef, Pr.eq (.bool true), Pr.eq (.bool true), Pr.eq undef, Pr.eq undef, Pr.eq undef, Pr.eq (.bool true)] (GrS w0)) (by kernel_rfl) (by kernel_rfl) (by kernel_rfl) ?_ ?_ ?_
         case refine_1 => exact fun V => GI.start (GrS.start _ _ _)
         case refine_2 =>
          refine .cons (fun V Ld a W hLi hpre hR hI KK hK => ?_) ?_
          ·
           have o4 := (hR.old 4 (by kernel_rfl)).trans (show _ = Value.pointer (some ⟨wr.heap.size, 0, none⟩) from rfl)
           exact J_fieldAddr rfl _ (.tmp 4) 0 rfl (by rw [o4]; go_simp) (hI.u0 hK rfl)
          refine .cons (fun V Ld a W hLi hpre hR hI KK hK => ?_) ?_
          ·
           have f0 := hI.ef hR hpre 0 rfl rfl rfl (by kernel_rfl)
           have c := (hI.st.bl.cell LV.out).trans VC.out.c0
           exact J_load rfl _ (.tmp 26) rfl (by rw [f0]; go_simp) (hI.u0 hK rfl)
          refine .cons (fun V Ld a W hLi hpre hR hI KK hK => ?_) ?_
          ·
           have f1 := hI.ef hR hpre 1 rfl rfl rfl (by kernel_rfl)
           refine J_call rfl _ _ _ rfl enter_in (by simp only [List.map_toArray, List.map_cons, List.map_nil, f1]; rfl) (in_yes _ _ _ J1.out W) ?_
           rintro e w' ⟨rfl, rfl⟩
           exact ⟨_, rfl, (hI.u0 hK rfl)⟩
          refine .cons (fun V Ld a W hLi hpre hR hI KK hK => ?_) ?_
          ·
           have f2 := hI.ef hR hpre 2 rfl rfl rfl (by kernel_rfl)
           exact G_unOp rfl .not _ (.tmp 28) rfl (by rw [f2]; go_simp) (hI.u0 hK rfl)
          refine .mf 3 rfl rfl rfl rfl rfl (by kernel_rfl) rfl ?_
          refine .cons (fun V Ld a W hLi hpre hR hI KK hK => ?_) ?_
          ·
           refine G_gw hI hR hpre 4 rfl rfl rfl rfl (by kernel_rfl) ?_
           have o3 := (hR.old 3 (by kernel_rfl)).trans (show _ = Value.int .i64 ((k : Int)) from rfl)
           exact G_move rfl (.tmp 3) rfl o3 (hI.u0 hK rfl)
          refine .cons (fun V Ld a W hLi hpre hR hI KK hK => ?_) ?_
          ·
           refine G_gw hI hR hpre 4 rfl rfl rfl rfl (by kernel_rfl) ?_
           have f5 := hI.ef hR hpre 5 rfl rfl rfl (by kernel_rfl)
           exact J_binOp rfl .gtr _ (.tmp 31) (.const (.int .i64 0)) _ rfl (by rw [f5]; exact bt_gtr _ _ _ _ W Z1.out) (hI.u0 hK rfl)
          refine .cons (fun V Ld a W hLi hpre hR hI KK hK => ?_) ?_
          ·
           refine G_gw hI hR hpre 4 rfl rfl rfl rfl (by kernel_rfl) ?_
           have f6 := hI.ef hR hpre 6 rfl rfl rfl (by kernel_rfl)
           exact G_move rfl (.tmp 32) rfl f6 (hI.u0 hK rfl)
          refine .cons (fun V Ld a W hLi hpre hR hI KK hK => ?_) ?_
          ·
           refine G_gw hI hR hpre 7 rfl rfl rfl rfl (by kernel_rfl) ?_
           have o4 := (hR.old 4 (by kernel_rfl)).trans (show _ = Value.pointer (some ⟨wr.heap.size, 0, none⟩) from rfl)
           exact J_fieldAddr rfl _ (.tmp 4) 0 rfl (by rw [o4]; go_simp) (hI.u0 hK rfl)
          refine .cons (fun V Ld a W hLi hpre hR hI KK hK => ?_) ?_
          ·
           refine G_gw hI hR hpre 7 rfl rfl rfl rfl (by kernel_rfl) ?_
           have f8 := hI.ef hR hpre 8 rfl rfl rfl (by kernel_rfl)
           have c := (hI.st.bl.cell LV.out).trans VC.out.c0
           exact J_load rfl _ (.tmp 34) rfl (by rw [f8]; go_simp) (hI.u0 hK rfl)
          refine .cons (fun V Ld a W hLi hpre hR hI KK hK => ?_) ?_
          ·
           refine G_gw hI hR hpre 7 rfl rfl rfl rfl (by kernel_rfl) ?_
           have o1 := (hR.old 1 (by kernel_rfl)).trans (show _ = Value.pointer (some ⟨w.heap.size, 0, none⟩) from rfl)
           exact J_fieldAddr rfl _ (.tmp 1) 0 rfl (by rw [o1]; go_simp) (hI.u0 hK rfl)
          refine .cons (fun V Ld a W hLi hpre hR hI KK hK => ?_) ?_
          ·
           refine G_gw hI hR hpre 7 rfl rfl rfl rfl (by kernel_rfl) ?_
           have f10 := hI.ef hR hpre 10 rfl rfl rfl (by kernel_rfl)
           have c := (hI.st.bl.cell LD.out).trans D0.out
           exact J_load rfl _ (.tmp 36) rfl (by rw [f10]; go_simp) (hI.u0 hK rfl)
          refine .cons (fun V Ld a W hLi hpre hR hI KK hK => ?_) ?_
          ·
           refine G_gw hI hR hpre 7 rfl rfl rfl rfl (by kernel_rfl) ?_
           have o3 := (hR.old 3 (by kernel_rfl)).trans (show _ = Value.int .i64 ((k : Int)) from rfl)
           exact G_move rfl (.tmp 3) rfl o3 (hI.u0 hK rfl)
          refine .cons (fun V Ld a W hLi hpre hR hI KK hK => ?_) ?_
          ·
           refine G_gw hI hR hpre 7 rfl rfl rfl rfl (by kernel_rfl) ?_
           have f12 := hI.ef hR hpre 12 rfl rfl rfl (by kernel_rfl)
           exact J_binOp rfl .sub _ (.tmp 38) (.const (.int .i64 1)) _ rfl (by rw [f12]; exact b_prev _ _ W HM.out (by omega)) (hI.u0 hK rfl)
          refine .cons (fun V Ld a W hLi hpre hR hI KK hK => ?_) ?_
          ·
           refine G_gw hI hR hpre 7 rfl rfl rfl rfl (by kernel_rfl) ?_
           have f11 := hI.ef hR hpre 11 rfl rfl rfl (by kernel_rfl)
           have f13 := hI.ef hR hpre 13 rfl rfl rfl (by kernel_rfl)
           exact J_indexAddr rfl _ (.tmp 37) (.tmp 39) rfl (by rw [f11, f13]; go_simp) (hI.u0 hK rfl)
          refine .cons (fun V Ld a W hLi hpre hR hI KK hK => ?_) ?_
          ·
           refine G_gw hI hR hpre 7 rfl rfl rfl rfl (by kernel_rfl) ?_
           have f14 := hI.ef hR hpre 14 rfl rfl rfl (by kernel_rfl)
           exact J_fieldAddr rfl _ (.tmp 40) 0 rfl (by rw [f14]; go_simp) (hI.u0 hK rfl)
          refine .cons (fun V Ld a W hLi hpre hR hI KK hK => ?_) ?_
          ·
           refine G_gw hI hR hpre 7 rfl rfl rfl rfl (by kernel_rfl) ?_
           have f15 := hI.ef hR hpre 15 rfl rfl rfl (by kernel_rfl)
           have c := (hI.st.bl.cell LB.out).trans Y0.out
           exact J_load rfl _ (.tmp 41) rfl (by rw [f15]; go_simp) (hI.u0 hK rfl)
          refine .cons (fun V Ld a W hLi hpre hR hI KK hK => ?_) ?_
          ·
           refine G_gw hI hR hpre 7 rfl rfl rfl rfl (by kernel_rfl) ?_
           have f9 := hI.ef hR hpre 9 rfl rfl rfl (by kernel_rfl)
           have f16 := hI.ef hR hpre 16 rfl rfl rfl (by kernel_rfl)
           exact J_binOp rfl .leq _ (.tmp 35) (.tmp 42) _ rfl (by rw [f9, f16]; exact bf_leq _ _ _ _ W J2.out) (hI.u0 hK rfl)
          refine .cons (fun V Ld a W hLi hpre hR hI KK hK => ?_) ?_
          ·
           refine G_gw hI hR hpre 4 rfl rfl rfl rfl (by kernel_rfl) ?_
           have f7 := hI.ef hR hpre 7 rfl rfl rfl (by kernel_rfl)
           have f17 := hI.ef hR hpre 17 rfl rfl rfl (by kernel_rfl)
           exact G_pick rfl (.tmp 33) (.tmp 43) (.const (.bool false)) rfl f7 (show _ = _ from f17) (hI.u0 hK rfl)
          refine .cons (fun V Ld a W hLi hpre hR hI KK hK => ?_) ?_
          ·
           have f4 := hI.ef hR hpre 4 rfl rfl rfl (by kernel_rfl)
           have f18 := hI.ef hR hpre 18 rfl rfl rfl (by kernel_rfl)
           exact G_pick rfl (.tmp 30) (.const (.bool true)) (.tmp 44) rfl f4 (show _ = _ from f18) (hI.u0 hK rfl)
          refine .mf 19 rfl rfl rfl rfl rfl (by kernel_rfl) rfl ?_
          refine .cons (fun V Ld a W hLi hpre hR hI KK hK => ?_) ?_
          ·
           refine G_gw hI hR hpre 20 rfl rfl rfl rfl (by kernel_rfl) ?_
           have o4 := (hR.old 4 (by kernel_rfl)).trans (show _ = Value.pointer (some ⟨wr.heap.size, 0, none⟩) from rfl)
           exact J_fieldAddr rfl _ (.tmp 4) 1 rfl (by rw [o4]; go_simp) (hI.u0 hK rfl)
          refine .cons (fun V Ld a W hLi hpre hR hI KK hK => ?_) ?_
          ·
           refine G_gw hI hR hpre 20 rfl rfl rfl rfl (by kernel_rfl) ?_
           have f21 := hI.ef hR hpre 21 rfl rfl rfl (by kernel_rfl)
           have c := (hI.st.bl.cell LV.out).trans VC.out.c1
           exact J_load rfl _ (.tmp 47) rfl (by rw [f21]; go_simp) (hI.u0 hK rfl)
          refine .cons (fun V Ld a W hLi hpre hR hI KK hK => ?_) ?_
          ·
           refine G_gw hI hR hpre 20 rfl rfl rfl rfl (by kernel_rfl) ?_
           have f22 := hI.ef hR hpre 22 rfl rfl rfl (by kernel_rfl)
           exact G_len rfl (.tmp 48) _ rfl (by rw [f22]; go_simp) (hI.u0 hK rfl)
          refine .cons (fun V Ld a W hLi hpre hR hI KK hK => ?_) ?_
          ·
           refine G_gw hI hR hpre 20 rfl rfl rfl rfl (by kernel_rfl) ?_
           have f23 := hI.ef hR hpre 23 rfl rfl rfl (by kernel_rfl)
           refine J_call rfl _ _ _ rfl enter_in (by simp only [List.map_toArray, List.map_cons, List.map_nil, f23]; rfl) (in_no _ _ _ J3.out W) ?_
           rintro e w' ⟨rfl, rfl⟩
           exact ⟨_, rfl, (hI.u0 hK rfl)⟩
          refine .cons (fun V Ld a W hLi hpre hR hI KK hK => ?_) ?_
          ·
           refine G_gw hI hR hpre 20 rfl rfl rfl rfl (by kernel_rfl) ?_
           have f24 := hI.ef hR hpre 24 rfl rfl rfl (by kernel_rfl)
           exact G_unOp rfl .not _ (.tmp 50) rfl (by rw [f24]; go_simp) (hI.u0 hK rfl)
          refine .cons (fun V Ld a W hLi hpre hR hI KK hK => ?_) ?_
          ·
           have f20 := hI.ef hR hpre 20 rfl rfl rfl (by kernel_rfl)
           have f25 := hI.ef hR hpre 25 rfl rfl rfl (by kernel_rfl)
           exact G_pick rfl (.tmp 46) (.const (.bool true)) (.tmp 51) rfl f20 (show _ = _ from f25) (hI.u0 hK rfl)
          refine .mf 26 rfl rfl rfl rfl rfl (by kernel_rfl) rfl ?_
          refine .un 27 rfl rfl rfl rfl (by kernel_rfl) rfl ?_
          refine .un 27 rfl rfl rfl rfl (by kernel_rfl) rfl ?_
          refine .un 27 rfl rfl rfl rfl (by kernel_rfl) rfl ?_
          refine .un 27 rfl rfl rfl rfl (by kernel_rfl) rfl ?_
          refine .cons (fun V Ld a W hLi hpre hR hI KK hK => ?_) ?_
          ·
           have f27 := hI.ef hR hpre 27 rfl rfl rfl (by kernel_rfl)
           exact G_pick rfl (.tmp 53) (.const (.bool true)) (.tmp 57) rfl f27 (show _ = _ from rfl) (hI.u0 hK rfl)
          refine .mf 32 rfl rfl rfl rfl rfl (by kernel_rfl) rfl ?_
          refine .un 33 rfl rfl rfl rfl (by kernel_rfl) rfl ?_
          refine .un 33 rfl rfl rfl rfl (by kernel_rfl) rfl ?_
          refine .un 33 rfl rfl rfl rfl (by kernel_rfl) rfl ?_
          refine .cons (fun V Ld a W hLi hpre hR hI KK hK => ?_) trivial
          ·
           have f33 := hI.ef hR hpre 33 rfl rfl rfl (by kernel_rfl)
           exact G_pick rfl (.tmp 59) (.const (.bool true)) (.tmp 62) rfl f33 (show _ = _ from rfl) (hI.u0 hK rfl)
         case refine_3 =>
          intro V Ld w9 hLd hI
          have e9 : V 37 = .bool true := hI.val 37 _ rfl (hLd 37 (by decide))
          have hb9 := hI.st.bl
          clear hI hLd
          simp only [finL, putL, Act.put, Nat.reduceAdd]
          rw [e9]
          clear e9
          generalize V 0 = v0, V 1 = v1
          generalize V 2 = v2, V 3 = v3
          generalize V 4 = v4, V 5 = v5
          generalize V 6 = v6, V 7 = v7
          generalize V 8 = v8, V 9 = v9
          generalize V 10 = v10, V 11 = v11
          generalize V 12 = v12, V 13 = v13
          generalize V 14 = v14, V 15 = v15
          generalize V 16 = v16, V 17 = v17
          generalize V 18 = v18, V 19 = v19
          generalize V 20 = v20, V 21 = v21
          generalize V 22 = v22, V 23 = v23
          generalize V 24 = v24, V 25 = v25
          generalize V 26 = v26, V 27 = v27
          generalize V 28 = v28, V 29 = v29
          generalize V 30 = v30, V 31 = v31
          generalize V 32 = v32, V 33 = v33
          generalize V 34 = v34, V 35 = v35, V 36 = v36
          clear V
          simp only [List.setIfInBounds_toArray, List.set_cons_succ, List.set_cons_zero]
          go_wp2_with fail
          go_ret
          exact RetB.int HV.out (HBW.out.trans ((hb0.trans (hb9.mono hb0.size)).mono HBW.out.size))
        | true =>
         have Q3 := Lib.hid q3
         clear q3
         by_cases q4 : (cAt C k).away.length ≤ 256
         ·
          have Q4 := Lib.hid q4
          clear q4
          cases q5 : (cAt C k).away.any lngB with
          | true =>
           have Q5 := Lib.hid q5
           clear q5
           have HV := Lib.hid (HBAD.out _ hlt (cou_5 Q5.out))
           have J1 := Lib.hid (show inI x.id 1 1048576 = true from by rw [hx.id]; exact Q1.out)
           have J2 := Lib.hid (show y.id < x.id from by have := Q2.out; rw [hx.id, hy.id]; omega)
           have J3 := Lib.hid (show inI (x.o.size : Int) 1 32 = true from by rw [hx.o]; exact Q3.out)
           have J4 := Lib.hid (show (x.n : Int) ≤ 256 from by have := Q4.out; have := hx.n; omega)
           have HAL := Lib.hid (fun W (hb : Below wr.heap.size wr W) => (show Calls Try.prog 37 #[.slice x.A x.n x.c, .func (.func 34) #[] #[]] W (Ret (.bool true) W) from by
            have h := anyLong_any x.A (cAt C k).away x.c W (hx.away.keep (Kpt.below hb)) (by have := HSZ.out k hlt; omega) (HSZ.out k hlt).2.2
            rw [Q5.out, ← hx.n] at h; exact h))
           clear hx
           clear hy
           go_wp2_with fail
           refine gen_world fun w0 hw0 => ?_
           have hb0 : Below wr.heap.size wr w0 := by rw [hw0]; exact below_alloc _ _
           have VC := Lib.hid (show CouC w0 wr.heap.size x.id x.o (.slice x.A x.n x.c) from by rw [hw0]; exact CouC.new _ _ _ _)
           have LV := Lib.hid (show wr.heap.size < w0.heap.size from by rw [hw0]; simp)
           have D0 := Lib.hid ((HDC.out.below (below_trans HBR.out hb0)).c0)
           have LD := Lib.hid ((HDC.out.below (below_trans HBR.out hb0)).lt)
           clear hw0
           replace Y0 := Lib.hid ((hb0.cell hbl).trans Y0.out)
           have LB := Lib.hid (Nat.lt_of_lt_of_le hbl hb0.size)
           refine wp_region_J2 (GI (R := Bl) [Pr.eq (.pointer (some ⟨wr.heap.size, 0, none⟩)), Pr.eq (.int .i64 (x.id)), Pr.eq (.bool true), Pr.eq (.bool false), Pr.eq (.bool false), Pr.eq (.int .i64 ((k : Int))), Pr.eq (.bool true), Pr.eq (.bool true), Pr.eq (.pointer (some ⟨wr.heap.size, 0, none⟩)), Pr.eq (.int .i64 (x.id)), Pr.eq (.pointer (some ⟨w.heap.size, 0, none⟩)), Pr.eq (.slice (some ⟨b, off, none⟩) C.length ca), Pr.eq (.int .i64 ((k : Int))), Pr.eq (.int .i64 ((m : Int))), Pr.eq (.pointer (some ⟨b, off + m * 3, none⟩)), Pr.eq (.pointer (some ⟨b, off + m * 3, none⟩)), Pr.eq (.int .i64 (y.id)), Pr.eq (.bool false), Pr.eq (.bool false), Pr.eq (.bool false), Pr.eq (.bool false), Pr.eq (.pointer (some ⟨wr.heap.size, 1, none⟩)), Pr.eq (.string (x.o)), Pr.eq (.int .i64 ((x.o.size : Int))), Pr.eq (.bool true), Pr.eq (.bool false), Pr.eq (.bool false), Pr.eq (.bool false), Pr.eq (.pointer (some ⟨wr.heap.size, 2, none⟩)), Pr.eq (.slice x.A x.n x.c), Pr.eq (.int .i64 ((x.n : Int))), Pr.eq (.bool false), Pr.eq (.bool false), Pr.eq (.bool false), Pr.eq (.pointer (some ⟨wr.heap.size, 2, none⟩)), Pr.eq (.slice x.A x.n x.c), Pr.eq (.bool true), Pr.eq (.bool true)] (GrS w0)) (by kernel_rfl) (by kernel_rfl) (by kernel_rfl) ?_ ?_ ?_
           case refine_1 => exact fun V => GI.start (GrS.start _ _ _)
           case refine_2 =>
            refine .cons (fun V Ld a W hLi hpre hR hI KK hK => ?_) ?_
            ·
             have o4 := (hR.old 4 (by kernel_rfl)).trans (show _ = Value.pointer (some ⟨wr.heap.size, 0, none⟩) from rfl)
             exact J_fieldAddr rfl _ (.tmp 4) 0 rfl (by rw [o4]; go_simp) (hI.u0 hK rfl)
            refine .cons (fun V Ld a W hLi hpre hR hI KK hK => ?_) ?_
            ·
             have f0 := hI.ef hR hpre 0 rfl rfl rfl (by kernel_rfl)
             have c := (hI.st.bl.cell LV.out).trans VC.out.c0
             exact J_load rfl _ (.tmp 26) rfl (by rw [f0]; go_simp) (hI.u0 hK rfl)
            refine .cons (fun V Ld a W hLi hpre hR hI KK hK => ?_) ?_
            ·
             have f1 := hI.ef hR hpre 1 rfl rfl rfl (by kernel_rfl)
             refine J_call rfl _ _ _ rfl enter_in (by simp only [List.map_toArray, List.map_cons, List.map_nil, f1]; rfl) (in_yes _ _ _ J1.out W) ?_
             rintro e w' ⟨rfl, rfl⟩
             exact ⟨_, rfl, (hI.u0 hK rfl)⟩
            refine .cons (fun V Ld a W hLi hpre hR hI KK hK => ?_) ?_
            ·
             have f2 := hI.ef hR hpre 2 rfl rfl rfl (by kernel_rfl)
             exact G_unOp rfl .not _ (.tmp 28) rfl (by rw [f2]; go_simp) (hI.u0 hK rfl)
            refine .mf 3 rfl rfl rfl rfl rfl (by kernel_rfl) rfl ?_
            refine .cons (fun V Ld a W hLi hpre hR hI KK hK => ?_) ?_
            ·
             refine G_gw hI hR hpre 4 rfl rfl rfl rfl (by kernel_rfl) ?_
             have o3 := (hR.old 3 (by kernel_rfl)).trans (show _ = Value.int .i64 ((k : Int)) from rfl)
             exact G_move rfl (.tmp 3) rfl o3 (hI.u0 hK rfl)
            refine .cons (fun V Ld a W hLi hpre hR hI KK hK => ?_) ?_
            ·
             refine G_gw hI hR hpre 4 rfl rfl rfl rfl (by kernel_rfl) ?_
             have f5 := hI.ef hR hpre 5 rfl rfl rfl (by kernel_rfl)
             exact J_binOp rfl .gtr _ (.tmp 31) (.const (.int .i64 0)) _ rfl (by rw [f5]; exact bt_gtr _ _ _ _ W Z1.out) (hI.u0 hK rfl)
            refine .cons (fun V Ld a W hLi hpre hR hI KK hK => ?_) ?_
            ·
             refine G_gw hI hR hpre 4 rfl rfl rfl rfl (by kernel_rfl) ?_
             have f6 := hI.ef hR hpre 6 rfl rfl rfl (by kernel_rfl)
             exact G_move rfl (.tmp 32) rfl f6 (hI.u0 hK rfl)
            refine .cons (fun V Ld a W hLi hpre hR hI KK hK => ?_) ?_
            ·
             refine G_gw hI hR hpre 7 rfl rfl rfl rfl (by kernel_rfl) ?_
             have o4 := (hR.old 4 (by kernel_rfl)).trans (show _ = Value.pointer (some ⟨wr.heap.size, 0, none⟩) from rfl)
             exact J_fieldAddr rfl _ (.tmp 4) 0 rfl (by rw [o4]; go_simp) (hI.u0 hK rfl)
            refine .cons (fun V Ld a W hLi hpre hR hI KK hK => ?_) ?_
            ·
             refine G_gw hI hR hpre 7 rfl rfl rfl rfl (by kernel_rfl) ?_
             have f8 := hI.ef hR hpre 8 rfl rfl rfl (by kernel_rfl)
             have c := (hI.st.bl.cell LV.out).trans VC.out.c0
             exact J_load rfl _ (.tmp 34) rfl (by rw [f8]; go_simp) (hI.u0 hK rfl)
            refine .cons (fun V Ld a W hLi hpre hR hI KK hK => ?_) ?_
            ·
             refine G_gw hI hR hpre 7 rfl rfl rfl rfl (by kernel_rfl) ?_
             have o1 := (hR.old 1 (by kernel_rfl)).trans (show _ = Value.pointer (some ⟨w.heap.size, 0, none⟩) from rfl)
             exact J_fieldAddr rfl _ (.tmp 1) 0 rfl (by rw [o1]; go_simp) (hI.u0 hK rfl)
            refine .cons (fun V Ld a W hLi hpre hR hI KK hK => ?_) ?_
            ·
             refine G_gw hI hR hpre 7 rfl rfl rfl rfl (by kernel_rfl) ?_
             have f10 := hI.ef hR hpre 10 rfl rfl rfl (by kernel_rfl)
             have c := (hI.st.bl.cell LD.out).trans D0.out
             exact J_load rfl _ (.tmp 36) rfl (by rw [f10]; go_simp) (hI.u0 hK rfl)
            refine .cons (fun V Ld a W hLi hpre hR hI KK hK => ?_) ?_
            ·
             refine G_gw hI hR hpre 7 rfl rfl rfl rfl (by kernel_rfl) ?_
             have o3 := (hR.old 3 (by kernel_rfl)).trans (show _ = Value.int .i64 ((k : Int)) from rfl)
             exact G_move rfl (.tmp 3) rfl o3 (hI.u0 hK rfl)
            refine .cons (fun V Ld a W hLi hpre hR hI KK hK => ?_) ?_
            ·
             refine G_gw hI hR hpre 7 rfl rfl rfl rfl (by kernel_rfl) ?_
             have f12 := hI.ef hR hpre 12 rfl rfl rfl (by kernel_rfl)
             exact J_binOp rfl .sub _ (.tmp 38) (.const (.int .i64 1)) _ rfl (by rw [f12]; exact b_prev _ _ W HM.out (by omega)) (hI.u0 hK rfl)
            refine .cons (fun V Ld a W hLi hpre hR hI KK hK => ?_) ?_
            ·
             refine G_gw hI hR hpre 7 rfl rfl rfl rfl (by kernel_rfl) ?_
             have f11 := hI.ef hR hpre 11 rfl rfl rfl (by kernel_rfl)
             have f13 := hI.ef hR hpre 13 rfl rfl rfl (by kernel_rfl)
             exact J_indexAddr rfl _ (.tmp 37) (.tmp 39) rfl (by rw [f11, f13]; go_simp) (hI.u0 hK rfl)
            refine .cons (fun V Ld a W hLi hpre hR hI KK hK => ?_) ?_
            ·
             refine G_gw hI hR hpre 7 rfl rfl rfl rfl (by kernel_rfl) ?_
             have f14 := hI.ef hR hpre 14 rfl rfl rfl (by kernel_rfl)
             exact J_fieldAddr rfl _ (.tmp 40) 0 rfl (by rw [f14]; go_simp) (hI.u0 hK rfl)
            refine .cons (fun V Ld a W hLi hpre hR hI KK hK => ?_) ?_
            ·
             refine G_gw hI hR hpre 7 rfl rfl rfl rfl (by kernel_rfl) ?_
             have f15 := hI.ef hR hpre 15 rfl rfl rfl (by kernel_rfl)
             have c := (hI.st.bl.cell LB.out).trans Y0.out
             exact J_load rfl _ (.tmp 41) rfl (by rw [f15]; go_simp) (hI.u0 hK rfl)
            refine .cons (fun V Ld a W hLi hpre hR hI KK hK => ?_) ?_
            ·
             refine G_gw hI hR hpre 7 rfl rfl rfl rfl (by kernel_rfl) ?_
             have f9 := hI.ef hR hpre 9 rfl rfl rfl (by kernel_rfl)
             have f16 := hI.ef hR hpre 16 rfl rfl rfl (by kernel_rfl)
             exact J_binOp rfl .leq _ (.tmp 35) (.tmp 42) _ rfl (by rw [f9, f16]; exact bf_leq _ _ _ _ W J2.out) (hI.u0 hK rfl)
            refine .cons (fun V Ld a W hLi hpre hR hI KK hK => ?_) ?_
            ·
             refine G_gw hI hR hpre 4 rfl rfl rfl rfl (by kernel_rfl) ?_
             have f7 := hI.ef hR hpre 7 rfl rfl rfl (by kernel_rfl)
             have f17 := hI.ef hR hpre 17 rfl rfl rfl (by kernel_rfl)
             exact G_pick rfl (.tmp 33) (.tmp 43) (.const (.bool false)) rfl f7 (show _ = _ from f17) (hI.u0 hK rfl)
            refine .cons (fun V Ld a W hLi hpre hR hI KK hK => ?_) ?_
            ·
             have f4 := hI.ef hR hpre 4 rfl rfl rfl (by kernel_rfl)
             have f18 := hI.ef hR hpre 18 rfl rfl rfl (by kernel_rfl)
             exact G_pick rfl (.tmp 30) (.const (.bool true)) (.tmp 44) rfl f4 (show _ = _ from f18) (hI.u0 hK rfl)
            refine .mf 19 rfl rfl rfl rfl rfl (by kernel_rfl) rfl ?_
            refine .cons (fun V Ld a W hLi hpre hR hI KK hK => ?_) ?_
            ·
             refine G_gw hI hR hpre 20 rfl rfl rfl rfl (by kernel_rfl) ?_
             have o4 := (hR.old 4 (by kernel_rfl)).trans (show _ = Value.pointer (some ⟨wr.heap.size, 0, none⟩) from rfl)
             exact J_fieldAddr rfl _ (.tmp 4) 1 rfl (by rw [o4]; go_simp) (hI.u0 hK rfl)
            refine .cons (fun V Ld a W hLi hpre hR hI KK hK => ?_) ?_
            ·
             refine G_gw hI hR hpre 20 rfl rfl rfl rfl (by kernel_rfl) ?_
             have f21 := hI.ef hR hpre 21 rfl rfl rfl (by kernel_rfl)
             have c := (hI.st.bl.cell LV.out).trans VC.out.c1
             exact J_load rfl _ (.tmp 47) rfl (by rw [f21]; go_simp) (hI.u0 hK rfl)
            refine .cons (fun V Ld a W hLi hpre hR hI KK hK => ?_) ?_
            ·
             refine G_gw hI hR hpre 20 rfl rfl rfl rfl (by kernel_rfl) ?_
             have f22 := hI.ef hR hpre 22 rfl rfl rfl (by kernel_rfl)
             exact G_len rfl (.tmp 48) _ rfl (by rw [f22]; go_simp) (hI.u0 hK rfl)
            refine .cons (fun V Ld a W hLi hpre hR hI KK hK => ?_) ?_
            ·
             refine G_gw hI hR hpre 20 rfl rfl rfl rfl (by kernel_rfl) ?_
             have f23 := hI.ef hR hpre 23 rfl rfl rfl (by kernel_rfl)
             refine J_call rfl _ _ _ rfl enter_in (by simp only [List.map_toArray, List.map_cons, List.map_nil, f23]; rfl) (in_yes _ _ _ J3.out W) ?_
             rintro e w' ⟨rfl, rfl⟩
             exact ⟨_, rfl, (hI.u0 hK rfl)⟩
            refine .cons (fun V Ld a W hLi hpre hR hI KK hK => ?_) ?_
            ·
             refine G_gw hI hR hpre 20 rfl rfl rfl rfl (by kernel_rfl) ?_
             have f24 := hI.ef hR hpre 24 rfl rfl rfl (by kernel_rfl)
             exact G_unOp rfl .not _ (.tmp 50) rfl (by rw [f24]; go_simp) (hI.u0 hK rfl)
            refine .cons (fun V Ld a W hLi hpre hR hI KK hK => ?_) ?_
            ·
             have f20 := hI.ef hR hpre 20 rfl rfl rfl (by kernel_rfl)
             have f25 := hI.ef hR hpre 25 rfl rfl rfl (by kernel_rfl)
             exact G_pick rfl (.tmp 46) (.const (.bool true)) (.tmp 51) rfl f20 (show _ = _ from f25) (hI.u0 hK rfl)
            refine .mf 26 rfl rfl rfl rfl rfl (by kernel_rfl) rfl ?_
            refine .cons (fun V Ld a W hLi hpre hR hI KK hK => ?_) ?_
            ·
             refine G_gw hI hR hpre 27 rfl rfl rfl rfl (by kernel_rfl) ?_
             have o4 := (hR.old 4 (by kernel_rfl)).trans (show _ = Value.pointer (some ⟨wr.heap.size, 0, none⟩) from rfl)
             exact J_fieldAddr rfl _ (.tmp 4) 2 rfl (by rw [o4]; go_simp) (hI.u0 hK rfl)
            refine .cons (fun V Ld a W hLi hpre hR hI KK hK => ?_) ?_
            ·
             refine G_gw hI hR hpre 27 rfl rfl rfl rfl (by kernel_rfl) ?_
             have f28 := hI.ef hR hpre 28 rfl rfl rfl (by kernel_rfl)
             have c := (hI.st.bl.cell LV.out).trans VC.out.c2
             exact J_load rfl _ (.tmp 54) rfl (by rw [f28]; go_simp) (hI.u0 hK rfl)
            refine .cons (fun V Ld a W hLi hpre hR hI KK hK => ?_) ?_
            ·
             refine G_gw hI hR hpre 27 rfl rfl rfl rfl (by kernel_rfl) ?_
             have f29 := hI.ef hR hpre 29 rfl rfl rfl (by kernel_rfl)
             exact G_len rfl (.tmp 55) _ rfl (by rw [f29]; go_simp) (hI.u0 hK rfl)
            refine .cons (fun V Ld a W hLi hpre hR hI KK hK => ?_) ?_
            ·
             refine G_gw hI hR hpre 27 rfl rfl rfl rfl (by kernel_rfl) ?_
             have f30 := hI.ef hR hpre 30 rfl rfl rfl (by kernel_rfl)
             exact J_binOp rfl .gtr _ (.tmp 56) (.const (.int .i64 256)) _ rfl (by rw [f30]; exact bf_gtr _ _ _ _ W J4.out) (hI.u0 hK rfl)
            refine .cons (fun V Ld a W hLi hpre hR hI KK hK => ?_) ?_
            ·
             have f27 := hI.ef hR hpre 27 rfl rfl rfl (by kernel_rfl)
             have f31 := hI.ef hR hpre 31 rfl rfl rfl (by kernel_rfl)
             exact G_pick rfl (.tmp 53) (.const (.bool true)) (.tmp 57) rfl f27 (show _ = _ from f31) (hI.u0 hK rfl)
            refine .mf 32 rfl rfl rfl rfl rfl (by kernel_rfl) rfl ?_
            refine .cons (fun V Ld a W hLi hpre hR hI KK hK => ?_) ?_
            ·
             refine G_gw hI hR hpre 33 rfl rfl rfl rfl (by kernel_rfl) ?_
             have o4 := (hR.old 4 (by kernel_rfl)).trans (show _ = Value.pointer (some ⟨wr.heap.size, 0, none⟩) from rfl)
             exact J_fieldAddr rfl _ (.tmp 4) 2 rfl (by rw [o4]; go_simp) (hI.u0 hK rfl)
            refine .cons (fun V Ld a W hLi hpre hR hI KK hK => ?_) ?_
            ·
             refine G_gw hI hR hpre 33 rfl rfl rfl rfl (by kernel_rfl) ?_
             have f34 := hI.ef hR hpre 34 rfl rfl rfl (by kernel_rfl)
             have c := (hI.st.bl.cell LV.out).trans VC.out.c2
             exact J_load rfl _ (.tmp 60) rfl (by rw [f34]; go_simp) (hI.u0 hK rfl)
            refine .cons (fun V Ld a W hLi hpre hR hI KK hK => ?_) ?_
            ·
             refine G_gw hI hR hpre 33 rfl rfl rfl rfl (by kernel_rfl) ?_
             have f35 := hI.ef hR hpre 35 rfl rfl rfl (by kernel_rfl)
             refine J_call rfl _ _ _ rfl enter_anyT (by simp only [List.map_toArray, List.map_cons, List.map_nil, f35]; rfl) (HAL.out W (hb0.trans (hI.st.bl.mono hb0.size))) ?_
             rintro e w' ⟨rfl, rfl⟩
             exact ⟨_, rfl, (hI.u0 hK rfl)⟩
            refine .cons (fun V Ld a W hLi hpre hR hI KK hK => ?_) trivial
            ·
             have f33 := hI.ef hR hpre 33 rfl rfl rfl (by kernel_rfl)
             have f36 := hI.ef hR hpre 36 rfl rfl rfl (by kernel_rfl)
             exact G_pick rfl (.tmp 59) (.const (.bool true)) (.tmp 62) rfl f33 (show _ = _ from f36) (hI.u0 hK rfl)
           case refine_3 =>
            intro V Ld w9 hLd hI
            have e9 : V 37 = .bool true := hI.val 37 _ rfl (hLd 37 (by decide))
            have hb9 := hI.st.bl
            clear hI hLd
            simp only [finL, putL, Act.put, Nat.reduceAdd]
            rw [e9]
            clear e9
            generalize V 0 = v0, V 1 = v1
            generalize V 2 = v2, V 3 = v3
            generalize V 4 = v4, V 5 = v5
            generalize V 6 = v6, V 7 = v7
            generalize V 8 = v8, V 9 = v9
            generalize V 10 = v10, V 11 = v11
            generalize V 12 = v12, V 13 = v13
            generalize V 14 = v14, V 15 = v15
            generalize V 16 = v16, V 17 = v17
            generalize V 18 = v18, V 19 = v19
            generalize V 20 = v20, V 21 = v21
            generalize V 22 = v22, V 23 = v23
            generalize V 24 = v24, V 25 = v25
            generalize V 26 = v26, V 27 = v27
            generalize V 28 = v28, V 29 = v29
            generalize V 30 = v30, V 31 = v31
            generalize V 32 = v32, V 33 = v33
            generalize V 34 = v34, V 35 = v35, V 36 = v36
            clear V
            simp only [List.setIfInBounds_toArray, List.set_cons_succ, List.set_cons_zero]
            go_wp2_with fail
            go_ret
            exact RetB.int HV.out (HBW.out.trans ((hb0.trans (hb9.mono hb0.size)).mono HBW.out.size))
          | false =>
           have Q5 := Lib.hid q5
           clear q5
           have HN := Lib.hid (show cousK C (k + 1) = true from by unfold cousK; rw [HK.out, cou_y Q1.out (prev_y HM.out Q2.out) Q3.out Q4.out Q5.out]; rfl)
           have J1 := Lib.hid (show inI x.id 1 1048576 = true from by rw [hx.id]; exact Q1.out)
           have J2 := Lib.hid (show y.id < x.id from by have := Q2.out; rw [hx.id, hy.id]; omega)
           have J3 := Lib.hid (show inI (x.o.size : Int) 1 32 = true from by rw [hx.o]; exact Q3.out)
           have J4 := Lib.hid (show (x.n : Int) ≤ 256 from by have := Q4.out; have := hx.n; omega)
           have HAL := Lib.hid (fun W (hb : Below wr.heap.size wr W) => (show Calls Try.prog 37 #[.slice x.A x.n x.c, .func (.func 34) #[] #[]] W (Ret (.bool false) W) from by
            have h := anyLong_any x.A (cAt C k).away x.c W (hx.away.keep (Kpt.below hb)) (by have := HSZ.out k hlt; omega) (HSZ.out k hlt).2.2
            rw [Q5.out, ← hx.n] at h; exact h))
           clear hx
           clear hy
           go_wp2_with fail
           refine gen_world fun w0 hw0 => ?_
           have hb0 : Below wr.heap.size wr w0 := by rw [hw0]; exact below_alloc _ _
           have VC := Lib.hid (show CouC w0 wr.heap.size x.id x.o (.slice x.A x.n x.c) from by rw [hw0]; exact CouC.new _ _ _ _)
           have LV := Lib.hid (show wr.heap.size < w0.heap.size from by rw [hw0]; simp)
           have D0 := Lib.hid ((HDC.out.below (below_trans HBR.out hb0)).c0)
           have LD := Lib.hid ((HDC.out.below (below_trans HBR.out hb0)).lt)
           clear hw0
           replace Y0 := Lib.hid ((hb0.cell hbl).trans Y0.out)
           have LB := Lib.hid (Nat.lt_of_lt_of_le hbl hb0.size)
           refine wp_region_J2 (GI (R := Bl) [Pr.eq (.pointer (some ⟨wr.heap.size, 0, none⟩)), Pr.eq (.int .i64 (x.id)), Pr.eq (.bool true), Pr.eq (.bool false), Pr.eq (.bool false), Pr.eq (.int .i64 ((k : Int))), Pr.eq (.bool true), Pr.eq (.bool true), Pr.eq (.pointer (some ⟨wr.heap.size, 0, none⟩)), Pr.eq (.int .i64 (x.id)), Pr.eq (.pointer (some ⟨w.heap.size, 0, none⟩)), Pr.eq (.slice (some ⟨b, off, none⟩) C.length ca), Pr.eq (.int .i64 ((k : Int))), Pr.eq (.int .i64 ((m : Int))), Pr.eq (.pointer (some ⟨b, off + m * 3, none⟩)), Pr.eq (.pointer (some ⟨b, off + m * 3, none⟩)), Pr.eq (.int .i64 (y.id)), Pr.eq (.bool false), Pr.eq (.bool false), Pr.eq (.bool false), Pr.eq (.bool false), Pr.eq (.pointer (some ⟨wr.heap.size, 1, none⟩)), Pr.eq (.string (x.o)), Pr.eq (.int .i64 ((x.o.size : Int))), Pr.eq (.bool true), Pr.eq (.bool false), Pr.eq (.bool false), Pr.eq (.bool false), Pr.eq (.pointer (some ⟨wr.heap.size, 2, none⟩)), Pr.eq (.slice x.A x.n x.c), Pr.eq (.int .i64 ((x.n : Int))), Pr.eq (.bool false), Pr.eq (.bool false), Pr.eq (.bool false), Pr.eq (.pointer (some ⟨wr.heap.size, 2, none⟩)), Pr.eq (.slice x.A x.n x.c), Pr.eq (.bool false), Pr.eq (.bool false)] (GrS w0)) (by kernel_rfl) (by kernel_rfl) (by kernel_rfl) ?_ ?_ ?_
           case refine_1 => exact fun V => GI.start (GrS.start _ _ _)
           case refine_2 =>
            refine .cons (fun V Ld a W hLi hpre hR hI KK hK => ?_) ?_
            ·
             have o4 := (hR.old 4 (by kernel_rfl)).trans (show _ = Value.pointer (some ⟨wr.heap.size, 0, none⟩) from rfl)
             exact J_fieldAddr rfl _ (.tmp 4) 0 rfl (by rw [o4]; go_simp) (hI.u0 hK rfl)
            refine .cons (fun V Ld a W hLi hpre hR hI KK hK => ?_) ?_
            ·
             have f0 := hI.ef hR hpre 0 rfl rfl rfl (by kernel_rfl)
             have c := (hI.st.bl.cell LV.out).trans VC.out.c0
             exact J_load rfl _ (.tmp 26) rfl (by rw [f0]; go_simp) (hI.u0 hK rfl)
            refine .cons (fun V Ld a W hLi hpre hR hI KK hK => ?_) ?_
            ·
             have f1 := hI.ef hR hpre 1 rfl rfl rfl (by kernel_rfl)
             refine J_call rfl _ _ _ rfl enter_in (by simp only [List.map_toArray, List.map_cons, List.map_nil, f1]; rfl) (in_yes _ _ _ J1.out W) ?_
             rintro e w' ⟨rfl, rfl⟩
             exact ⟨_, rfl, (hI.u0 hK rfl)⟩
            refine .cons (fun V Ld a W hLi hpre hR hI KK hK => ?_) ?_
            ·
             have f2 := hI.ef hR hpre 2 rfl rfl rfl (by kernel_rfl)
             exact G_unOp rfl .not _ (.tmp 28) rfl (by rw [f2]; go_simp) (hI.u0 hK rfl)
            refine .mf 3 rfl rfl rfl rfl rfl (by kernel_rfl) rfl ?_
            refine .cons (fun V Ld a W hLi hpre hR hI KK hK => ?_) ?_
            ·
             refine G_gw hI hR hpre 4 rfl rfl rfl rfl (by kernel_rfl) ?_
             have o3 := (hR.old 3 (by kernel_rfl)).trans (show _ = Value.int .i64 ((k : Int)) from rfl)
             exact G_move rfl (.tmp 3) rfl o3 (hI.u0 hK rfl)
            refine .cons (fun V Ld a W hLi hpre hR hI KK hK => ?_) ?_
            ·
             refine G_gw hI hR hpre 4 rfl rfl rfl rfl (by kernel_rfl) ?_
             have f5 := hI.ef hR hpre 5 rfl rfl rfl (by kernel_rfl)
             exact J_binOp rfl .gtr _ (.tmp 31) (.const (.int .i64 0)) _ rfl (by rw [f5]; exact bt_gtr _ _ _ _ W Z1.out) (hI.u0 hK rfl)
            refine .cons (fun V Ld a W hLi hpre hR hI KK hK => ?_) ?_
            ·
             refine G_gw hI hR hpre 4 rfl rfl rfl rfl (by kernel_rfl) ?_
             have f6 := hI.ef hR hpre 6 rfl rfl rfl (by kernel_rfl)
             exact G_move rfl (.tmp 32) rfl f6 (hI.u0 hK rfl)
            refine .cons (fun V Ld a W hLi hpre hR hI KK hK => ?_) ?_
            ·
             refine G_gw hI hR hpre 7 rfl rfl rfl rfl (by kernel_rfl) ?_
             have o4 := (hR.old 4 (by kernel_rfl)).trans (show _ = Value.pointer (some ⟨wr.heap.size, 0, none⟩) from rfl)
             exact J_fieldAddr rfl _ (.tmp 4) 0 rfl (by rw [o4]; go_simp) (hI.u0 hK rfl)
            refine .cons (fun V Ld a W hLi hpre hR hI KK hK => ?_) ?_
            ·
             refine G_gw hI hR hpre 7 rfl rfl rfl rfl (by kernel_rfl) ?_
             have f8 := hI.ef hR hpre 8 rfl rfl rfl (by kernel_rfl)
             have c := (hI.st.bl.cell LV.out).trans VC.out.c0
             exact J_load rfl _ (.tmp 34) rfl (by rw [f8]; go_simp) (hI.u0 hK rfl)
            refine .cons (fun V Ld a W hLi hpre hR hI KK hK => ?_) ?_
            ·
             refine G_gw hI hR hpre 7 rfl rfl rfl rfl (by kernel_rfl) ?_
             have o1 := (hR.old 1 (by kernel_rfl)).trans (show _ = Value.pointer (some ⟨w.heap.size, 0, none⟩) from rfl)
             exact J_fieldAddr rfl _ (.tmp 1) 0 rfl (by rw [o1]; go_simp) (hI.u0 hK rfl)
            refine .cons (fun V Ld a W hLi hpre hR hI KK hK => ?_) ?_
            ·
             refine G_gw hI hR hpre 7 rfl rfl rfl rfl (by kernel_rfl) ?_
             have f10 := hI.ef hR hpre 10 rfl rfl rfl (by kernel_rfl)
             have c := (hI.st.bl.cell LD.out).trans D0.out
             exact J_load rfl _ (.tmp 36) rfl (by rw [f10]; go_simp) (hI.u0 hK rfl)
            refine .cons (fun V Ld a W hLi hpre hR hI KK hK => ?_) ?_
            ·
             refine G_gw hI hR hpre 7 rfl rfl rfl rfl (by kernel_rfl) ?_
             have o3 := (hR.old 3 (by kernel_rfl)).trans (show _ = Value.int .i64 ((k : Int)) from rfl)
             exact G_move rfl (.tmp 3) rfl o3 (hI.u0 hK rfl)
            refine .cons (fun V Ld a W hLi hpre hR hI KK hK => ?_) ?_
            ·
             refine G_gw hI hR hpre 7 rfl rfl rfl rfl (by kernel_rfl) ?_
             have f12 := hI.ef hR hpre 12 rfl rfl rfl (by kernel_rfl)
             exact J_binOp rfl .sub _ (.tmp 38) (.const (.int .i64 1)) _ rfl (by rw [f12]; exact b_prev _ _ W HM.out (by omega)) (hI.u0 hK rfl)
            refine .cons (fun V Ld a W hLi hpre hR hI KK hK => ?_) ?_
            ·
             refine G_gw hI hR hpre 7 rfl rfl rfl rfl (by kernel_rfl) ?_
             have f11 := hI.ef hR hpre 11 rfl rfl rfl (by kernel_rfl)
             have f13 := hI.ef hR hpre 13 rfl rfl rfl (by kernel_rfl)
             exact J_indexAddr rfl _ (.tmp 37) (.tmp 39) rfl (by rw [f11, f13]; go_simp) (hI.u0 hK rfl)
            refine .cons (fun V Ld a W hLi hpre hR hI KK hK => ?_) ?_
            ·
             refine G_gw hI hR hpre 7 rfl rfl rfl rfl (by kernel_rfl) ?_
             have f14 := hI.ef hR hpre 14 rfl rfl rfl (by kernel_rfl)
             exact J_fieldAddr rfl _ (.tmp 40) 0 rfl (by rw [f14]; go_simp) (hI.u0 hK rfl)
            refine .cons (fun V Ld a W hLi hpre hR hI KK hK => ?_) ?_
            ·
             refine G_gw hI hR hpre 7 rfl rfl rfl rfl (by kernel_rfl) ?_
             have f15 := hI.ef hR hpre 15 rfl rfl rfl (by kernel_rfl)
             have c := (hI.st.bl.cell LB.out).trans Y0.out
             exact J_load rfl _ (.tmp 41) rfl (by rw [f15]; go_simp) (hI.u0 hK rfl)
            refine .cons (fun V Ld a W hLi hpre hR hI KK hK => ?_) ?_
            ·
             refine G_gw hI hR hpre 7 rfl rfl rfl rfl (by kernel_rfl) ?_
             have f9 := hI.ef hR hpre 9 rfl rfl rfl (by kernel_rfl)
             have f16 := hI.ef hR hpre 16 rfl rfl rfl (by kernel_rfl)
             exact J_binOp rfl .leq _ (.tmp 35) (.tmp 42) _ rfl (by rw [f9, f16]; exact bf_leq _ _ _ _ W J2.out) (hI.u0 hK rfl)
            refine .cons (fun V Ld a W hLi hpre hR hI KK hK => ?_) ?_
            ·
             refine G_gw hI hR hpre 4 rfl rfl rfl rfl (by kernel_rfl) ?_
             have f7 := hI.ef hR hpre 7 rfl rfl rfl (by kernel_rfl)
             have f17 := hI.ef hR hpre 17 rfl rfl rfl (by kernel_rfl)
             exact G_pick rfl (.tmp 33) (.tmp 43) (.const (.bool false)) rfl f7 (show _ = _ from f17) (hI.u0 hK rfl)
            refine .cons (fun V Ld a W hLi hpre hR hI KK hK => ?_) ?_
            ·
             have f4 := hI.ef hR hpre 4 rfl rfl rfl (by kernel_rfl)
             have f18 := hI.ef hR hpre 18 rfl rfl rfl (by kernel_rfl)
             exact G_pick rfl (.tmp 30) (.const (.bool true)) (.tmp 44) rfl f4 (show _ = _ from f18) (hI.u0 hK rfl)
            refine .mf 19 rfl rfl rfl rfl rfl (by kernel_rfl) rfl ?_
            refine .cons (fun V Ld a W hLi hpre hR hI KK hK => ?_) ?_
            ·
             refine G_gw hI hR hpre 20 rfl rfl rfl rfl (by kernel_rfl) ?_
             have o4 := (hR.old 4 (by kernel_rfl)).trans (show _ = Value.pointer (some ⟨wr.heap.size, 0, none⟩) from rfl)
             exact J_fieldAddr rfl _ (.tmp 4) 1 rfl (by rw [o4]; go_simp) (hI.u0 hK rfl)
            refine .cons (fun V Ld a W hLi hpre hR hI KK hK => ?_) ?_
            ·
             refine G_gw hI hR hpre 20 rfl rfl rfl rfl (by kernel_rfl) ?_
             have f21 := hI.ef hR hpre 21 rfl rfl rfl (by kernel_rfl)
             have c := (hI.st.bl.cell LV.out).trans VC.out.c1
             exact J_load rfl _ (.tmp 47) rfl (by rw [f21]; go_simp) (hI.u0 hK rfl)
            refine .cons (fun V Ld a W hLi hpre hR hI KK hK => ?_) ?_
            ·
             refine G_gw hI hR hpre 20 rfl rfl rfl rfl (by kernel_rfl) ?_
             have f22 := hI.ef hR hpre 22 rfl rfl rfl (by kernel_rfl)
             exact G_len rfl (.tmp 48) _ rfl (by rw [f22]; go_simp) (hI.u0 hK rfl)
            refine .cons (fun V Ld a W hLi hpre hR hI KK hK => ?_) ?_
            ·
             refine G_gw hI hR hpre 20 rfl rfl rfl rfl (by kernel_rfl) ?_
             have f23 := hI.ef hR hpre 23 rfl rfl rfl (by kernel_rfl)
             refine J_call rfl _ _ _ rfl enter_in (by simp only [List.map_toArray, List.map_cons, List.map_nil, f23]; rfl) (in_yes _ _ _ J3.out W) ?_
             rintro e w' ⟨rfl, rfl⟩
             exact ⟨_, rfl, (hI.u0 hK rfl)⟩
            refine .cons (fun V Ld a W hLi hpre hR hI KK hK => ?_) ?_
            ·
             refine G_gw hI hR hpre 20 rfl rfl rfl rfl (by kernel_rfl) ?_
             have f24 := hI.ef hR hpre 24 rfl rfl rfl (by kernel_rfl)
             exact G_unOp rfl .not _ (.tmp 50) rfl (by rw [f24]; go_simp) (hI.u0 hK rfl)
            refine .cons (fun V Ld a W hLi hpre hR hI KK hK => ?_) ?_
            ·
             have f20 := hI.ef hR hpre 20 rfl rfl rfl (by kernel_rfl)
             have f25 := hI.ef hR hpre 25 rfl rfl rfl (by kernel_rfl)
             exact G_pick rfl (.tmp 46) (.const (.bool true)) (.tmp 51) rfl f20 (show _ = _ from f25) (hI.u0 hK rfl)
            refine .mf 26 rfl rfl rfl rfl rfl (by kernel_rfl) rfl ?_
            refine .cons (fun V Ld a W hLi hpre hR hI KK hK => ?_) ?_
            ·
             refine G_gw hI hR hpre 27 rfl rfl rfl rfl (by kernel_rfl) ?_
             have o4 := (hR.old 4 (by kernel_rfl)).trans (show _ = Value.pointer (some ⟨wr.heap.size, 0, none⟩) from rfl)
             exact J_fieldAddr rfl _ (.tmp 4) 2 rfl (by rw [o4]; go_simp) (hI.u0 hK rfl)
            refine .cons (fun V Ld a W hLi hpre hR hI KK hK => ?_) ?_
            ·
             refine G_gw hI hR hpre 27 rfl rfl rfl rfl (by kernel_rfl) ?_
             have f28 := hI.ef hR hpre 28 rfl rfl rfl (by kernel_rfl)
             have c := (hI.st.bl.cell LV.out).trans VC.out.c2
             exact J_load rfl _ (.tmp 54) rfl (by rw [f28]; go_simp) (hI.u0 hK rfl)
            refine .cons (fun V Ld a W hLi hpre hR hI KK hK => ?_) ?_
            ·
             refine G_gw hI hR hpre 27 rfl rfl rfl rfl (by kernel_rfl) ?_
             have f29 := hI.ef hR hpre 29 rfl rfl rfl (by kernel_rfl)
             exact G_len rfl (.tmp 55) _ rfl (by rw [f29]; go_simp) (hI.u0 hK rfl)
            refine .cons (fun V Ld a W hLi hpre hR hI KK hK => ?_) ?_
            ·
             refine G_gw hI hR hpre 27 rfl rfl rfl rfl (by kernel_rfl) ?_
             have f30 := hI.ef hR hpre 30 rfl rfl rfl (by kernel_rfl)
             exact J_binOp rfl .gtr _ (.tmp 56) (.const (.int .i64 256)) _ rfl (by rw [f30]; exact bf_gtr _ _ _ _ W J4.out) (hI.u0 hK rfl)
            refine .cons (fun V Ld a W hLi hpre hR hI KK hK => ?_) ?_
            ·
             have f27 := hI.ef hR hpre 27 rfl rfl rfl (by kernel_rfl)
             have f31 := hI.ef hR hpre 31 rfl rfl rfl (by kernel_rfl)
             exact G_pick rfl (.tmp 53) (.const (.bool true)) (.tmp 57) rfl f27 (show _ = _ from f31) (hI.u0 hK rfl)
            refine .mf 32 rfl rfl rfl rfl rfl (by kernel_rfl) rfl ?_
            refine .cons (fun V Ld a W hLi hpre hR hI KK hK => ?_) ?_
            ·
             refine G_gw hI hR hpre 33 rfl rfl rfl rfl (by kernel_rfl) ?_
             have o4 := (hR.old 4 (by kernel_rfl)).trans (show _ = Value.pointer (some ⟨wr.heap.size, 0, none⟩) from rfl)
             exact J_fieldAddr rfl _ (.tmp 4) 2 rfl (by rw [o4]; go_simp) (hI.u0 hK rfl)
            refine .cons (fun V Ld a W hLi hpre hR hI KK hK => ?_) ?_
            ·
             refine G_gw hI hR hpre 33 rfl rfl rfl rfl (by kernel_rfl) ?_
             have f34 := hI.ef hR hpre 34 rfl rfl rfl (by kernel_rfl)
             have c := (hI.st.bl.cell LV.out).trans VC.out.c2
             exact J_load rfl _ (.tmp 60) rfl (by rw [f34]; go_simp) (hI.u0 hK rfl)
            refine .cons (fun V Ld a W hLi hpre hR hI KK hK => ?_) ?_
            ·
             refine G_gw hI hR hpre 33 rfl rfl rfl rfl (by kernel_rfl) ?_
             have f35 := hI.ef hR hpre 35 rfl rfl rfl (by kernel_rfl)
             refine J_call rfl _ _ _ rfl enter_anyT (by simp only [List.map_toArray, List.map_cons, List.map_nil, f35]; rfl) (HAL.out W (hb0.trans (hI.st.bl.mono hb0.size))) ?_
             rintro e w' ⟨rfl, rfl⟩
             exact ⟨_, rfl, (hI.u0 hK rfl)⟩
            refine .cons (fun V Ld a W hLi hpre hR hI KK hK => ?_) trivial
            ·
             have f33 := hI.ef hR hpre 33 rfl rfl rfl (by kernel_rfl)
             have f36 := hI.ef hR hpre 36 rfl rfl rfl (by kernel_rfl)
             exact G_pick rfl (.tmp 59) (.const (.bool true)) (.tmp 62) rfl f33 (show _ = _ from f36) (hI.u0 hK rfl)
           case refine_3 =>
            intro V Ld w9 hLd hI
            have e9 : V 37 = .bool false := hI.val 37 _ rfl (hLd 37 (by decide))
            have hb9 := hI.st.bl
            clear hI hLd
            simp only [finL, putL, Act.put, Nat.reduceAdd]
            rw [e9]
            clear e9
            generalize V 0 = v0, V 1 = v1
            generalize V 2 = v2, V 3 = v3
            generalize V 4 = v4, V 5 = v5
            generalize V 6 = v6, V 7 = v7
            generalize V 8 = v8, V 9 = v9
            generalize V 10 = v10, V 11 = v11
            generalize V 12 = v12, V 13 = v13
            generalize V 14 = v14, V 15 = v15
            generalize V 16 = v16, V 17 = v17
            generalize V 18 = v18, V 19 = v19
            generalize V 20 = v20, V 21 = v21
            generalize V 22 = v22, V 23 = v23
            generalize V 24 = v24, V 25 = v25
            generalize V 26 = v26, V 27 = v27
            generalize V 28 = v28, V 29 = v29
            generalize V 30 = v30, V 31 = v31
            generalize V 32 = v32, V 33 = v33
            generalize V 34 = v34, V 35 = v35, V 36 = v36
            clear V
            simp only [List.setIfInBounds_toArray, List.set_cons_succ, List.set_cons_zero]
            go_wp2_with fail
            go_roundw
            case rel => exact ⟨k + 1, by omega, by go_num, HN.out, below_trans HBR.out (below_trans hb0 hb9)⟩
            case measure => simp [intOf]; omega
         ·
          have Q4 := Lib.hid q4
          clear q4
          have HV := Lib.hid (HBAD.out _ hlt (cou_4 Q4.out))
          have J1 := Lib.hid (show inI x.id 1 1048576 = true from by rw [hx.id]; exact Q1.out)
          have J2 := Lib.hid (show y.id < x.id from by have := Q2.out; rw [hx.id, hy.id]; omega)
          have J3 := Lib.hid (show inI (x.o.size : Int) 1 32 = true from by rw [hx.o]; exact Q3.out)
          have J4 := Lib.hid (show (256 : Int) < (x.n : Int) from by have := Q4.out; have := hx.n; omega)
          clear hx
          clear hy
          go_wp2_with fail
          refine gen_world fun w0 hw0 => ?_
          have hb0 : Below wr.heap.size wr w0 := by rw [hw0]; exact below_alloc _ _
          have VC := Lib.hid (show CouC w0 wr.heap.size x.id x.o (.slice x.A x.n x.c) from by rw [hw0]; exact CouC.new _ _ _ _)
          have LV := Lib.hid (show wr.heap.size < w0.heap.size from by rw [hw0]; simp)
          have D0 := Lib.hid ((HDC.out.below (below_trans HBR.out hb0)).c0)
          have LD := Lib.hid ((HDC.out.below (below_trans HBR.out hb0)).lt)
          clear hw0
          replace Y0 := Lib.hid ((hb0.cell hbl).trans Y0.out)
          have LB := Lib.hid (Nat.lt_of_lt_of_le hbl hb0.size)
          refine wp_region_J2 (GI (R := Bl) [Pr.eq (.pointer (some ⟨wr.heap.size, 0, none⟩)), Pr.eq (.int .i64 (x.id)), Pr.eq (.bool true), Pr.eq (.bool false), Pr.eq (.bool false), Pr.eq (.int .i64 ((k : Int))), Pr.eq (.bool true), Pr.eq (.bool true), Pr.eq (.pointer (some ⟨wr.heap.size, 0, none⟩)), Pr.eq (.int .i64 (x.id)), Pr.eq (.pointer (some ⟨w.heap.size, 0, none⟩)), Pr.eq (.slice (some ⟨b, off, none⟩) C.length ca), Pr.eq (.int .i64 ((k : Int))), Pr.eq (.int .i64 ((m : Int))), Pr.eq (.pointer (some ⟨b, off + m * 3, none⟩)), Pr.eq (.pointer (some ⟨b, off + m * 3, none⟩)), Pr.eq (.int .i64 (y.id)), Pr.eq (.bool false), Pr.eq (.bool false), Pr.eq (.bool false), Pr.eq (.bool false), Pr.eq (.pointer (some ⟨wr.heap.size, 1, none⟩)), Pr.eq (.string (x.o)), Pr.eq (.int .i64 ((x.o.size : Int))), Pr.eq (.bool true), Pr.eq (.bool false), Pr.eq (.bool false), Pr.eq (.bool false), Pr.eq (.pointer (some ⟨wr.heap.size, 2, none⟩)), Pr.eq (.slice x.A x.n x.c), Pr.eq (.int .i64 ((x.n : Int))), Pr.eq (.bool true), Pr.eq (.bool true), Pr.eq (.bool true), Pr.eq undef, Pr.eq undef, Pr.eq undef, Pr.eq (.bool true)] (GrS w0)) (by kernel_rfl) (by kernel_rfl) (by kernel_rfl) ?_ ?_ ?_
          case refine_1 => exact fun V => GI.start (GrS.start _ _ _)
          case refine_2 =>
           refine .cons (fun V Ld a W hLi hpre hR hI KK hK => ?_) ?_
           ·
            have o4 := (hR.old 4 (by kernel_rfl)).trans (show _ = Value.pointer (some ⟨wr.heap.size, 0, none⟩) from rfl)
            exact J_fieldAddr rfl _ (.tmp 4) 0 rfl (by rw [o4]; go_simp) (hI.u0 hK rfl)
           refine .cons (fun V Ld a W hLi hpre hR hI KK hK => ?_) ?_
           ·
            have f0 := hI.ef hR hpre 0 rfl rfl rfl (by kernel_rfl)
            have c := (hI.st.bl.cell LV.out).trans VC.out.c0
            exact J_load rfl _ (.tmp 26) rfl (by rw [f0]; go_simp) (hI.u0 hK rfl)
           refine .cons (fun V Ld a W hLi hpre hR hI KK hK => ?_) ?_
           ·
            have f1 := hI.ef hR hpre 1 rfl rfl rfl (by kernel_rfl)
            refine J_call rfl _ _ _ rfl enter_in (by simp only [List.map_toArray, List.map_cons, List.map_nil, f1]; rfl) (in_yes _ _ _ J1.out W) ?_
            rintro e w' ⟨rfl, rfl⟩
            exact ⟨_, rfl, (hI.u0 hK rfl)⟩
           refine .cons (fun V Ld a W hLi hpre hR hI KK hK => ?_) ?_
           ·
            have f2 := hI.ef hR hpre 2 rfl rfl rfl (by kernel_rfl)
            exact G_unOp rfl .not _ (.tmp 28) rfl (by rw [f2]; go_simp) (hI.u0 hK rfl)
           refine .mf 3 rfl rfl rfl rfl rfl (by kernel_rfl) rfl ?_
           refine .cons (fun V Ld a W hLi hpre hR hI KK hK => ?_) ?_
           ·
            refine G_gw hI hR hpre 4 rfl rfl rfl rfl (by kernel_rfl) ?_
            have o3 := (hR.old 3 (by kernel_rfl)).trans (show _ = Value.int .i64 ((k : Int)) from rfl)
            exact G_move rfl (.tmp 3) rfl o3 (hI.u0 hK rfl)
           refine .cons (fun V Ld a W hLi hpre hR hI KK hK => ?_) ?_
           ·
            refine G_gw hI hR hpre 4 rfl rfl rfl rfl (by kernel_rfl) ?_
            have f5 := hI.ef hR hpre 5 rfl rfl rfl (by kernel_rfl)
            exact J_binOp rfl .gtr _ (.tmp 31) (.const (.int .i64 0)) _ rfl (by rw [f5]; exact bt_gtr _ _ _ _ W Z1.out) (hI.u0 hK rfl)
           refine .cons (fun V Ld a W hLi hpre hR hI KK hK => ?_) ?_
           ·
            refine G_gw hI hR hpre 4 rfl rfl rfl rfl (by kernel_rfl) ?_
            have f6 := hI.ef hR hpre 6 rfl rfl rfl (by kernel_rfl)
            exact G_move rfl (.tmp 32) rfl f6 (hI.u0 hK rfl)
           refine .cons (fun V Ld a W hLi hpre hR hI KK hK => ?_) ?_
           ·
            refine G_gw hI hR hpre 7 rfl rfl rfl rfl (by kernel_rfl) ?_
            have o4 := (hR.old 4 (by kernel_rfl)).trans (show _ = Value.pointer (some ⟨wr.heap.size, 0, none⟩) from rfl)
            exact J_fieldAddr rfl _ (.tmp 4) 0 rfl (by rw [o4]; go_simp) (hI.u0 hK rfl)
           refine .cons (fun V Ld a W hLi hpre hR hI KK hK => ?_) ?_
           ·
            refine G_gw hI hR hpre 7 rfl rfl rfl rfl (by kernel_rfl) ?_
            have f8 := hI.ef hR hpre 8 rfl rfl rfl (by kernel_rfl)
            have c := (hI.st.bl.cell LV.out).trans VC.out.c0
            exact J_load rfl _ (.tmp 34) rfl (by rw [f8]; go_simp) (hI.u0 hK rfl)
           refine .cons (fun V Ld a W hLi hpre hR hI KK hK => ?_) ?_
           ·
            refine G_gw hI hR hpre 7 rfl rfl rfl rfl (by kernel_rfl) ?_
            have o1 := (hR.old 1 (by kernel_rfl)).trans (show _ = Value.pointer (some ⟨w.heap.size, 0, none⟩) from rfl)
            exact J_fieldAddr rfl _ (.tmp 1) 0 rfl (by rw [o1]; go_simp) (hI.u0 hK rfl)
           refine .cons (fun V Ld a W hLi hpre hR hI KK hK => ?_) ?_
           ·
            refine G_gw hI hR hpre 7 rfl rfl rfl rfl (by kernel_rfl) ?_
            have f10 := hI.ef hR hpre 10 rfl rfl rfl (by kernel_rfl)
            have c := (hI.st.bl.cell LD.out).trans D0.out
            exact J_load rfl _ (.tmp 36) rfl (by rw [f10]; go_simp) (hI.u0 hK rfl)
           refine .cons (fun V Ld a W hLi hpre hR hI KK hK => ?_) ?_
           ·
            refine G_gw hI hR hpre 7 rfl rfl rfl rfl (by kernel_rfl) ?_
            have o3 := (hR.old 3 (by kernel_rfl)).trans (show _ = Value.int .i64 ((k : Int)) from rfl)
            exact G_move rfl (.tmp 3) rfl o3 (hI.u0 hK rfl)
           refine .cons (fun V Ld a W hLi hpre hR hI KK hK => ?_) ?_
           ·
            refine G_gw hI hR hpre 7 rfl rfl rfl rfl (by kernel_rfl) ?_
            have f12 := hI.ef hR hpre 12 rfl rfl rfl (by kernel_rfl)
            exact J_binOp rfl .sub _ (.tmp 38) (.const (.int .i64 1)) _ rfl (by rw [f12]; exact b_prev _ _ W HM.out (by omega)) (hI.u0 hK rfl)
           refine .cons (fun V Ld a W hLi hpre hR hI KK hK => ?_) ?_
           ·
            refine G_gw hI hR hpre 7 rfl rfl rfl rfl (by kernel_rfl) ?_
            have f11 := hI.ef hR hpre 11 rfl rfl rfl (by kernel_rfl)
            have f13 := hI.ef hR hpre 13 rfl rfl rfl (by kernel_rfl)
            exact J_indexAddr rfl _ (.tmp 37) (.tmp 39) rfl (by rw [f11, f13]; go_simp) (hI.u0 hK rfl)
           refine .cons (fun V Ld a W hLi hpre hR hI KK hK => ?_) ?_
           ·
            refine G_gw hI hR hpre 7 rfl rfl rfl rfl (by kernel_rfl) ?_
            have f14 := hI.ef hR hpre 14 rfl rfl rfl (by kernel_rfl)
            exact J_fieldAddr rfl _ (.tmp 40) 0 rfl (by rw [f14]; go_simp) (hI.u0 hK rfl)
           refine .cons (fun V Ld a W hLi hpre hR hI KK hK => ?_) ?_
           ·
            refine G_gw hI hR hpre 7 rfl rfl rfl rfl (by kernel_rfl) ?_
            have f15 := hI.ef hR hpre 15 rfl rfl rfl (by kernel_rfl)
            have c := (hI.st.bl.cell LB.out).trans Y0.out
            exact J_load rfl _ (.tmp 41) rfl (by rw [f15]; go_simp) (hI.u0 hK rfl)
           refine .cons (fun V Ld a W hLi hpre hR hI KK hK => ?_) ?_
           ·
            refine G_gw hI hR hpre 7 rfl rfl rfl rfl (by kernel_rfl) ?_
            have f9 := hI.ef hR hpre 9 rfl rfl rfl (by kernel_rfl)
            have f16 := hI.ef hR hpre 16 rfl rfl rfl (by kernel_rfl)
            exact J_binOp rfl .leq _ (.tmp 35) (.tmp 42) _ rfl (by rw [f9, f16]; exact bf_leq _ _ _ _ W J2.out) (hI.u0 hK rfl)
           refine .cons (fun V Ld a W hLi hpre hR hI KK hK => ?_) ?_
           ·
            refine G_gw hI hR hpre 4 rfl rfl rfl rfl (by kernel_rfl) ?_
            have f7 := hI.ef hR hpre 7 rfl rfl rfl (by kernel_rfl)
            have f17 := hI.ef hR hpre 17 rfl rfl rfl (by kernel_rfl)
            exact G_pick rfl (.tmp 33) (.tmp 43) (.const (.bool false)) rfl f7 (show _ = _ from f17) (hI.u0 hK rfl)
           refine .cons (fun V Ld a W hLi hpre hR hI KK hK => ?_) ?_
           ·
            have f4 := hI.ef hR hpre 4 rfl rfl rfl (by kernel_rfl)
            have f18 := hI.ef hR hpre 18 rfl rfl rfl (by kernel_rfl)
            exact G_pick rfl (.tmp 30) (.const (.bool true)) (.tmp 44) rfl f4 (show _ = _ from f18) (hI.u0 hK rfl)
           refine .mf 19 rfl rfl rfl rfl rfl (by kernel_rfl) rfl ?_
           refine .cons (fun V Ld a W hLi hpre hR hI KK hK => ?_) ?_
           ·
            refine G_gw hI hR hpre 20 rfl rfl rfl rfl (by kernel_rfl) ?_
            have o4 := (hR.old 4 (by kernel_rfl)).trans (show _ = Value.pointer (some ⟨wr.heap.size, 0, none⟩) from rfl)
            exact J_fieldAddr rfl _ (.tmp 4) 1 rfl (by rw [o4]; go_simp) (hI.u0 hK rfl)
           refine .cons (fun V Ld a W hLi hpre hR hI KK hK => ?_) ?_
           ·
            refine G_gw hI hR hpre 20 rfl rfl rfl rfl (by kernel_rfl) ?_
            have f21 := hI.ef hR hpre 21 rfl rfl rfl (by kernel_rfl)
            have c := (hI.st.bl.cell LV.out).trans VC.out.c1
            exact J_load rfl _ (.tmp 47) rfl (by rw [f21]; go_simp) (hI.u0 hK rfl)
           refine .cons (fun V Ld a W hLi hpre hR hI KK hK => ?_) ?_
           ·
            refine G_gw hI hR hpre 20 rfl rfl rfl rfl (by kernel_rfl) ?_
            have f22 := hI.ef hR hpre 22 rfl rfl rfl (by kernel_rfl)
            exact G_len rfl (.tmp 48) _ rfl (by rw [f22]; go_simp) (hI.u0 hK rfl)
           refine .cons (fun V Ld a W hLi hpre hR hI KK hK => ?_) ?_
           ·
            refine G_gw hI hR hpre 20 rfl rfl rfl rfl (by kernel_rfl) ?_
            have f23 := hI.ef hR hpre 23 rfl rfl rfl (by kernel_rfl)
            refine J_call rfl _ _ _ rfl enter_in (by simp only [List.map_toArray, List.map_cons, List.map_nil, f23]; rfl) (in_yes _ _ _ J3.out W) ?_
            rintro e w' ⟨rfl, rfl⟩
            exact ⟨_, rfl, (hI.u0 hK rfl)⟩
           refine .cons (fun V Ld a W hLi hpre hR hI KK hK => ?_) ?_
           ·
            refine G_gw hI hR hpre 20 rfl rfl rfl rfl (by kernel_rfl) ?_
            have f24 := hI.ef hR hpre 24 rfl rfl rfl (by kernel_rfl)
            exact G_unOp rfl .not _ (.tmp 50) rfl (by rw [f24]; go_simp) (hI.u0 hK rfl)
           refine .cons (fun V Ld a W hLi hpre hR hI KK hK => ?_) ?_
           ·
            have f20 := hI.ef hR hpre 20 rfl rfl rfl (by kernel_rfl)
            have f25 := hI.ef hR hpre 25 rfl rfl rfl (by kernel_rfl)
            exact G_pick rfl (.tmp 46) (.const (.bool true)) (.tmp 51) rfl f20 (show _ = _ from f25) (hI.u0 hK rfl)
           refine .mf 26 rfl rfl rfl rfl rfl (by kernel_rfl) rfl ?_
           refine .cons (fun V Ld a W hLi hpre hR hI KK hK => ?_) ?_
           ·
            refine G_gw hI hR hpre 27 rfl rfl rfl rfl (by kernel_rfl) ?_
            have o4 := (hR.old 4 (by kernel_rfl)).trans (show _ = Value.pointer (some ⟨wr.heap.size, 0, none⟩) from rfl)
            exact J_fieldAddr rfl _ (.tmp 4) 2 rfl (by rw [o4]; go_simp) (hI.u0 hK rfl)
           refine .cons (fun V Ld a W hLi hpre hR hI KK hK => ?_) ?_
           ·
            refine G_gw hI hR hpre 27 rfl rfl rfl rfl (by kernel_rfl) ?_
            have f28 := hI.ef hR hpre 28 rfl rfl rfl (by kernel_rfl)
            have c := (hI.st.bl.cell LV.out).trans VC.out.c2
            exact J_load rfl _ (.tmp 54) rfl (by rw [f28]; go_simp) (hI.u0 hK rfl)
           refine .cons (fun V Ld a W hLi hpre hR hI KK hK => ?_) ?_
           ·
            refine G_gw hI hR hpre 27 rfl rfl rfl rfl (by kernel_rfl) ?_
            have f29 := hI.ef hR hpre 29 rfl rfl rfl (by kernel_rfl)
            exact G_len rfl (.tmp 55) _ rfl (by rw [f29]; go_simp) (hI.u0 hK rfl)
           refine .cons (fun V Ld a W hLi hpre hR hI KK hK => ?_) ?_
           ·
            refine G_gw hI hR hpre 27 rfl rfl rfl rfl (by kernel_rfl) ?_
            have f30 := hI.ef hR hpre 30 rfl rfl rfl (by kernel_rfl)
            exact J_binOp rfl .gtr _ (.tmp 56) (.const (.int .i64 256)) _ rfl (by rw [f30]; exact bt_gtr _ _ _ _ W J4.out) (hI.u0 hK rfl)
           refine .cons (fun V Ld a W hLi hpre hR hI KK hK => ?_) ?_
           ·
            have f27 := hI.ef hR hpre 27 rfl rfl rfl (by kernel_rfl)
            have f31 := hI.ef hR hpre 31 rfl rfl rfl (by kernel_rfl)
            exact G_pick rfl (.tmp 53) (.const (.bool true)) (.tmp 57) rfl f27 (show _ = _ from f31) (hI.u0 hK rfl)
           refine .mf 32 rfl rfl rfl rfl rfl (by kernel_rfl) rfl ?_
           refine .un 33 rfl rfl rfl rfl (by kernel_rfl) rfl ?_
           refine .un 33 rfl rfl rfl rfl (by kernel_rfl) rfl ?_
           refine .un 33 rfl rfl rfl rfl (by kernel_rfl) rfl ?_
           refine .cons (fun V Ld a W hLi hpre hR hI KK hK => ?_) trivial
           ·
            have f33 := hI.ef hR hpre 33 rfl rfl rfl (by kernel_rfl)
            exact G_pick rfl (.tmp 59) (.const (.bool true)) (.tmp 62) rfl f33 (show _ = _ from rfl) (hI.u0 hK rfl)
          case refine_3 =>
           intro V Ld w9 hLd hI
           have e9 : V 37 = .bool true := hI.val 37 _ rfl (hLd 37 (by decide))
           have hb9 := hI.st.bl
           clear hI hLd
           simp only [finL, putL, Act.put, Nat.reduceAdd]
           rw [e9]
           clear e9
           generalize V 0 = v0, V 1 = v1
           generalize V 2 = v2, V 3 = v3
           generalize V 4 = v4, V 5 = v5
           generalize V 6 = v6, V 7 = v7
           generalize V 8 = v8, V 9 = v9
           generalize V 10 = v10, V 11 = v11
           generalize V 12 = v12, V 13 = v13
           generalize V 14 = v14, V 15 = v15
           generalize V 16 = v16, V 17 = v17
           generalize V 18 = v18, V 19 = v19
           generalize V 20 = v20, V 21 = v21
           generalize V 22 = v22, V 23 = v23
           generalize V 24 = v24, V 25 = v25
           generalize V 26 = v26, V 27 = v27
           generalize V 28 = v28, V 29 = v29
           generalize V 30 = v30, V 31 = v31
           generalize V 32 = v32, V 33 = v33
           generalize V 34 = v34, V 35 = v35, V 36 = v36
           clear V
           simp only [List.setIfInBounds_toArray, List.set_cons_succ, List.set_cons_zero]
           go_wp2_with fail
           go_ret
           exact RetB.int HV.out (HBW.out.trans ((hb0.trans (hb9.mono hb0.size)).mono HBW.out.size))
       ·
        have Q2 := Lib.hid q2
        clear q2
        have HV := Lib.hid (HBAD.out _ hlt (cou_2 (prev_n HM.out Q2.out)))
        have J1 := Lib.hid (show inI x.id 1 1048576 = true from by rw [hx.id]; exact Q1.out)
        have J2 := Lib.hid (show x.id ≤ y.id from by have := Q2.out; rw [hx.id, hy.id]; omega)
        clear hx
        clear hy
        go_wp2_with fail
        refine gen_world fun w0 hw0 => ?_
        have hb0 : Below wr.heap.size wr w0 := by rw [hw0]; exact below_alloc _ _
        have VC := Lib.hid (show CouC w0 wr.heap.size x.id x.o (.slice x.A x.n x.c) from by rw [hw0]; exact CouC.new _ _ _ _)
        have LV := Lib.hid (show wr.heap.size < w0.heap.size from by rw [hw0]; simp)
        have D0 := Lib.hid ((HDC.out.below (below_trans HBR.out hb0)).c0)
        have LD := Lib.hid ((HDC.out.below (below_trans HBR.out hb0)).lt)
        clear hw0
        replace Y0 := Lib.hid ((hb0.cell hbl).trans Y0.out)
        have LB := Lib.hid (Nat.lt_of_lt_of_le hbl hb0.size)
        refine wp_region_J2 (GI (R := Bl) [Pr.eq (.pointer (some ⟨wr.heap.size, 0, none⟩)), Pr.eq (.int .i64 (x.id)), Pr.eq (.bool true), Pr.eq (.bool false), Pr.eq (.bool false), Pr.eq (.int .i64 ((k : Int))), Pr.eq (.bool true), Pr.eq (.bool true), Pr.eq (.pointer (some ⟨wr.heap.size, 0, none⟩)), Pr.eq (.int .i64 (x.id)), Pr.eq (.pointer (some ⟨w.heap.size, 0, none⟩)), Pr.eq (.slice (some ⟨b, off, none⟩) C.length ca), Pr.eq (.int .i64 ((k : Int))), Pr.eq (.int .i64 ((m : Int))), Pr.eq (.pointer (some ⟨b, off + m * 3, none⟩)), Pr.eq (.pointer (some ⟨b, off + m * 3, none⟩)), Pr.eq (.int .i64 (y.id)), Pr.eq (.bool true), Pr.eq (.bool true), Pr.eq (.bool true), Pr.eq (.bool true), Pr.eq undef, Pr.eq undef, Pr.eq undef, Pr.eq undef, Pr.eq undef, Pr.eq (.bool true), Pr.eq (.bool true), Pr.eq undef, Pr.eq undef, Pr.eq undef, Pr.eq undef, Pr.eq (.bool true), Pr.eq (.bool true), Pr.eq undef, Pr.eq undef, Pr.eq undef, Pr.eq (.bool true)] (GrS w0)) (by kernel_rfl) (by kernel_rfl) (by kernel_rfl) ?_ ?_ ?_
        case refine_1 => exact fun V => GI.start (GrS.start _ _ _)
        case refine_2 =>
         refine .cons (fun V Ld a W hLi hpre hR hI KK hK => ?_) ?_
         ·
          have o4 := (hR.old 4 (by kernel_rfl)).trans (show _ = Value.pointer (some ⟨wr.heap.size, 0, none⟩) from rfl)
          exact J_fieldAddr rfl _ (.tmp 4) 0 rfl (by rw [o4]; go_simp) (hI.u0 hK rfl)
         refine .cons (fun V Ld a W hLi hpre hR hI KK hK => ?_) ?_
         ·
          have f0 := hI.ef hR hpre 0 rfl rfl rfl (by kernel_rfl)
          have c := (hI.st.bl.cell LV.out).trans VC.out.c0
          exact J_load rfl _ (.tmp 26) rfl (by rw [f0]; go_simp) (hI.u0 hK rfl)
         refine .cons (fun V Ld a W hLi hpre hR hI KK hK => ?_) ?_
         ·
          have f1 := hI.ef hR hpre 1 rfl rfl rfl (by kernel_rfl)
          refine J_call rfl _ _ _ rfl enter_in (by simp only [List.map_toArray, List.map_cons, List.map_nil, f1]; rfl) (in_yes _ _ _ J1.out W) ?_
          rintro e w' ⟨rfl, rfl⟩
          exact ⟨_, rfl, (hI.u0 hK rfl)⟩
         refine .cons (fun V Ld a W hLi hpre hR hI KK hK => ?_) ?_
         ·
          have f2 := hI.ef hR hpre 2 rfl rfl rfl (by kernel_rfl)
          exact G_unOp rfl .not _ (.tmp 28) rfl (by rw [f2]; go_simp) (hI.u0 hK rfl)
         refine .mf 3 rfl rfl rfl rfl rfl (by kernel_rfl) rfl ?_
         refine .cons (fun V Ld a W hLi hpre hR hI KK hK => ?_) ?_
         ·
          refine G_gw hI hR hpre 4 rfl rfl rfl rfl (by kernel_rfl) ?_
          have o3 := (hR.old 3 (by kernel_rfl)).trans (show _ = Value.int .i64 ((k : Int)) from rfl)
          exact G_move rfl (.tmp 3) rfl o3 (hI.u0 hK rfl)
         refine .cons (fun V Ld a W hLi hpre hR hI KK hK => ?_) ?_
         ·
          refine G_gw hI hR hpre 4 rfl rfl rfl rfl (by kernel_rfl) ?_
          have f5 := hI.ef hR hpre 5 rfl rfl rfl (by kernel_rfl)
          exact J_binOp rfl .gtr _ (.tmp 31) (.const (.int .i64 0)) _ rfl (by rw [f5]; exact bt_gtr _ _ _ _ W Z1.out) (hI.u0 hK rfl)
         refine .cons (fun V Ld a W hLi hpre hR hI KK hK => ?_) ?_
         ·
          refine G_gw hI hR hpre 4 rfl rfl rfl rfl (by kernel_rfl) ?_
          have f6 := hI.ef hR hpre 6 rfl rfl rfl (by kernel_rfl)
          exact G_move rfl (.tmp 32) rfl f6 (hI.u0 hK rfl)
         refine .cons (fun V Ld a W hLi hpre hR hI KK hK => ?_) ?_
         ·
          refine G_gw hI hR hpre 7 rfl rfl rfl rfl (by kernel_rfl) ?_
          have o4 := (hR.old 4 (by kernel_rfl)).trans (show _ = Value.pointer (some ⟨wr.heap.size, 0, none⟩) from rfl)
          exact J_fieldAddr rfl _ (.tmp 4) 0 rfl (by rw [o4]; go_simp) (hI.u0 hK rfl)
         refine .cons (fun V Ld a W hLi hpre hR hI KK hK => ?_) ?_
         ·
          refine G_gw hI hR hpre 7 rfl rfl rfl rfl (by kernel_rfl) ?_
          have f8 := hI.ef hR hpre 8 rfl rfl rfl (by kernel_rfl)
          have c := (hI.st.bl.cell LV.out).trans VC.out.c0
          exact J_load rfl _ (.tmp 34) rfl (by rw [f8]; go_simp) (hI.u0 hK rfl)
         refine .cons (fun V Ld a W hLi hpre hR hI KK hK => ?_) ?_
         ·
          refine G_gw hI hR hpre 7 rfl rfl rfl rfl (by kernel_rfl) ?_
          have o1 := (hR.old 1 (by kernel_rfl)).trans (show _ = Value.pointer (some ⟨w.heap.size, 0, none⟩) from rfl)
          exact J_fieldAddr rfl _ (.tmp 1) 0 rfl (by rw [o1]; go_simp) (hI.u0 hK rfl)
         refine .cons (fun V Ld a W hLi hpre hR hI KK hK => ?_) ?_
         ·
          refine G_gw hI hR hpre 7 rfl rfl rfl rfl (by kernel_rfl) ?_
          have f10 := hI.ef hR hpre 10 rfl rfl rfl (by kernel_rfl)
          have c := (hI.st.bl.cell LD.out).trans D0.out
          exact J_load rfl _ (.tmp 36) rfl (by rw [f10]; go_simp) (hI.u0 hK rfl)
         refine .cons (fun V Ld a W hLi hpre hR hI KK hK => ?_) ?_
         ·
          refine G_gw hI hR hpre 7 rfl rfl rfl rfl (by kernel_rfl) ?_
          have o3 := (hR.old 3 (by kernel_rfl)).trans (show _ = Value.int .i64 ((k : Int)) from rfl)
          exact G_move rfl (.tmp 3) rfl o3 (hI.u0 hK rfl)
         refine .cons (fun V Ld a W hLi hpre hR hI KK hK => ?_) ?_
         ·
          refine G_gw hI hR hpre 7 rfl rfl rfl rfl (by kernel_rfl) ?_
          have f12 := hI.ef hR hpre 12 rfl rfl rfl (by kernel_rfl)
          exact J_binOp rfl .sub _ (.tmp 38) (.const (.int .i64 1)) _ rfl (by rw [f12]; exact b_prev _ _ W HM.out (by omega)) (hI.u0 hK rfl)
         refine .cons (fun V Ld a W hLi hpre hR hI KK hK => ?_) ?_
         ·
          refine G_gw hI hR hpre 7 rfl rfl rfl rfl (by kernel_rfl) ?_
          have f11 := hI.ef hR hpre 11 rfl rfl rfl (by kernel_rfl)
          have f13 := hI.ef hR hpre 13 rfl rfl rfl (by kernel_rfl)
          exact J_indexAddr rfl _ (.tmp 37) (.tmp 39) rfl (by rw [f11, f13]; go_simp) (hI.u0 hK rfl)
         refine .cons (fun V Ld a W hLi hpre hR hI KK hK => ?_) ?_
         ·
          refine G_gw hI hR hpre 7 rfl rfl rfl rfl (by kernel_rfl) ?_
          have f14 := hI.ef hR hpre 14 rfl rfl rfl (by kernel_rfl)
          exact J_fieldAddr rfl _ (.tmp 40) 0 rfl (by rw [f14]; go_simp) (hI.u0 hK rfl)
         refine .cons (fun V Ld a W hLi hpre hR hI KK hK => ?_) ?_
         ·
          refine G_gw hI hR hpre 7 rfl rfl rfl rfl (by kernel_rfl) ?_
          have f15 := hI.ef hR hpre 15 rfl rfl rfl (by kernel_rfl)
          have c := (hI.st.bl.cell LB.out).trans Y0.out
          exact J_load rfl _ (.tmp 41) rfl (by rw [f15]; go_simp) (hI.u0 hK rfl)
         refine .cons (fun V Ld a W hLi hpre hR hI KK hK => ?_) ?_
         ·
          refine G_gw hI hR hpre 7 rfl rfl rfl rfl (by kernel_rfl) ?_
          have f9 := hI.ef hR hpre 9 rfl rfl rfl (by kernel_rfl)
          have f16 := hI.ef hR hpre 16 rfl rfl rfl (by kernel_rfl)
          exact J_binOp rfl .leq _ (.tmp 35) (.tmp 42) _ rfl (by rw [f9, f16]; exact bt_leq _ _ _ _ W J2.out) (hI.u0 hK rfl)
         refine .cons (fun V Ld a W hLi hpre hR hI KK hK => ?_) ?_
         ·
          refine G_gw hI hR hpre 4 rfl rfl rfl rfl (by kernel_rfl) ?_
          have f7 := hI.ef hR hpre 7 rfl rfl rfl (by kernel_rfl)
          have f17 := hI.ef hR hpre 17 rfl rfl rfl (by kernel_rfl)
          exact G_pick rfl (.tmp 33) (.tmp 43) (.const (.bool false)) rfl f7 (show _ = _ from f17) (hI.u0 hK rfl)
         refine .cons (fun V Ld a W hLi hpre hR hI KK hK => ?_) ?_
         ·
          have f4 := hI.ef hR hpre 4 rfl rfl rfl (by kernel_rfl)
          have f18 := hI.ef hR hpre 18 rfl rfl rfl (by kernel_rfl)
          exact G_pick rfl (.tmp 30) (.const (.bool true)) (.tmp 44) rfl f4 (show _ = _ from f18) (hI.u0 hK rfl)
         refine .mf 19 rfl rfl rfl rfl rfl (by kernel_rfl) rfl ?_
         refine .un 20 rfl rfl rfl rfl (by kernel_rfl) rfl ?_
         refine .un 20 rfl rfl rfl rfl (by kernel_rfl) rfl ?_
         refine .un 20 rfl rfl rfl rfl (by kernel_rfl) rfl ?_
         refine .un 20 rfl rfl rfl rfl (by kernel_rfl) rfl ?_
         refine .un 20 rfl rfl rfl rfl (by kernel_rfl) rfl ?_
         refine .cons (fun V Ld a W hLi hpre hR hI KK hK => ?_) ?_
         ·
          have f20 := hI.ef hR hpre 20 rfl rfl rfl (by kernel_rfl)
          exact G_pick rfl (.tmp 46) (.const (.bool true)) (.tmp 51) rfl f20 (show _ = _ from rfl) (hI.u0 hK rfl)
         refine .mf 26 rfl rfl rfl rfl rfl (by kernel_rfl) rfl ?_
         refine .un 27 rfl rfl rfl rfl (by kernel_rfl) rfl ?_
         refine .un 27 rfl rfl rfl rfl (by kernel_rfl) rfl ?_
         refine .un 27 rfl rfl rfl rfl (by kernel_rfl) rfl ?_
         refine .un 27 rfl rfl rfl rfl (by kernel_rfl) rfl ?_
         refine .cons (fun V Ld a W hLi hpre hR hI KK hK => ?_) ?_
         ·
          have f27 := hI.ef hR hpre 27 rfl rfl rfl (by kernel_rfl)
          exact G_pick rfl (.tmp 53) (.const (.bool true)) (.tmp 57) rfl f27 (show _ = _ from rfl) (hI.u0 hK rfl)
         refine .mf 32 rfl rfl rfl rfl rfl (by kernel_rfl) rfl ?_
         refine .un 33 rfl rfl rfl rfl (by kernel_rfl) rfl ?_
         refine .un 33 rfl rfl rfl rfl (by kernel_rfl) rfl ?_
         refine .un 33 rfl rfl rfl rfl (by kernel_rfl) rfl ?_
         refine .cons (fun V Ld a W hLi hpre hR hI KK hK => ?_) trivial
         ·
          have f33 := hI.ef hR hpre 33 rfl rfl rfl (by kernel_rfl)
          exact G_pick rfl (.tmp 59) (.const (.bool true)) (.tmp 62) rfl f33 (show _ = _ from rfl) (hI.u0 hK rfl)
        case refine_3 =>
         intro V Ld w9 hLd hI
         have e9 : V 37 = .bool true := hI.val 37 _ rfl (hLd 37 (by decide))
         have hb9 := hI.st.bl
         clear hI hLd
         simp only [finL, putL, Act.put, Nat.reduceAdd]
         rw [e9]
         clear e9
         generalize V 0 = v0, V 1 = v1
         generalize V 2 = v2, V 3 = v3
         generalize V 4 = v4, V 5 = v5
         generalize V 6 = v6, V 7 = v7
         generalize V 8 = v8, V 9 = v9
         generalize V 10 = v10, V 11 = v11
         generalize V 12 = v12, V 13 = v13
         generalize V 14 = v14, V 15 = v15
         generalize V 16 = v16, V 17 = v17
         generalize V 18 = v18, V 19 = v19
         generalize V 20 = v20, V 21 = v21
         generalize V 22 = v22, V 23 = v23
         generalize V 24 = v24, V 25 = v25
         generalize V 26 = v26, V 27 = v27
         generalize V 28 = v28, V 29 = v29
         generalize V 30 = v30, V 31 = v31
         generalize V 32 = v32, V 33 = v33
         generalize V 34 = v34, V 35 = v35, V 36 = v36
         clear V
         simp only [List.setIfInBounds_toArray, List.set_cons_succ, List.set_cons_zero]
         go_wp2_with fail
         go_ret
         exact RetB.int HV.out (HBW.out.trans ((hb0.trans (hb9.mono hb0.size)).mono HBW.out.size))
    ·
     obtain rfl : C.length = k := by omega
     have HCK := Lib.hid HK.out
     have hkl : ¬ (C.length : Int) < (C.length : Int) := by omega
     have d0 := (HDC.out.below hbr).c0
     have d1 := (HDC.out.below hbr).c1
     go_wp2_with fail
     clear d0 d1 hkl hk
     refine gen_world fun w3 hw3 => ?_
     have hb3 : Below wr.heap.size wr w3 := by rw [hw3]; exact Below.refl _ _
     replace HDC := Lib.hid (HDC.out.below (below_trans HBR.out hb3))
     have HB3 := Lib.hid (below_trans HBW.out hb3)
     clear hw3 hbr hb1 hb2 hb3 HK HBR HBW HB1
     go_loopw [68] (fun i wr => ∃ k : Nat, k ≤ K.length ∧ i = .int .i64 k ∧ casK ⟨C, K⟩ k = true ∧ Below w3.heap.size w3 wr) (fun i _ => K.length - (intOf i).toNat)
     case atStart => exact ⟨0, Nat.zero_le _, rfl, rfl, Below.refl _ _⟩
     case round =>
      obtain ⟨k, hk, rfl, hpre, hbr⟩ := hrel
      have HK := Lib.hid hpre
      have HBR := Lib.hid hbr
      have HBW := Lib.hid (below_trans HB3.out hbr)
      clear hpre
      by_cases hlt : k < K.length
      ·
       skip
       obtain ⟨kb, ko, rfl, hbl, -, c0, c1, c2, c3, c4⟩ := (HKS.out.below HBW.out).case hlt
       have hk0 : (0 : Int) ≤ (k : Int) := by omega
       have hkl : (k : Int) < (K.length : Int) := by omega
       have HDR := HDC.out.below hbr
       have d0 := HDR.c0
       have d1 := HDR.c1
       have ld := HDR.lt
       clear HDR hbr
       go_wp2_with fail
       refine gen_calls fun w4 hw4 => ?_
       have hb4 : Below wr.heap.size wr w4 := by rw [hw4]; exact below_alloc _ _
       have VC0 := Lib.hid (show CaseC w4 wr.heap.size (kAt K k) from by rw [hw4]; exact CaseC.new _ rfl)
       clear hw4 c0 c1 c2 c3 c4 d0 d1
       rcases ixC_cases (isId (kAt K k).c) C with ⟨hf, -⟩ | ⟨f, hf, hfl, -, -⟩
       ·
        have HF := Lib.hid (show fndC C (kAt K k).c = -1 from hf)
        clear hf
        have hfc := find_any _ (kAt K k).c ⟨C, K⟩ w4 (HD.out.below (below_trans HBW.out hb4)) (show C.length ≤ 100000 by omega)
        rw [show fndC C (kAt K k).c = -1 from HF.out] at hfc
        refine ret_below hfc fun w0 hb0 => ?_
        clear hfc
        have HW0 := Lib.hid (below_trans hb4 hb0)
        have VC := Lib.hid (VC0.out.below hb0)
        have LV := Lib.hid VC.out.lt
        have D0 := Lib.hid (HDC.out.below (below_trans HBR.out HW0.out)).c0
        have D1 := Lib.hid (HDC.out.below (below_trans HBR.out HW0.out)).c1
        have LD := Lib.hid (HDC.out.below (below_trans HBR.out HW0.out)).lt
        clear hb4 hb0 VC0
        have HV := Lib.hid (HBADK.out _ hlt (cas_1 HF.out))
        go_wp2_with fail
        refine wp_region_J2 (GI (R := Bl) [Pr.eq (.int .i64 (-1)), Pr.eq (.bool true), Pr.eq (.bool true), Pr.eq undef, Pr.eq undef, Pr.eq undef, Pr.eq undef, Pr.eq undef, Pr.eq undef, Pr.eq undef, Pr.eq undef, Pr.eq undef, Pr.eq (.bool true), Pr.eq (.bool true), Pr.eq undef, Pr.eq undef, Pr.eq undef, Pr.eq (.bool true), Pr.eq (.bool true), Pr.eq undef, Pr.eq undef, Pr.eq undef, Pr.eq undef, Pr.eq (.bool true), Pr.eq (.bool true), Pr.eq undef, Pr.eq undef, Pr.eq undef, Pr.eq undef, Pr.eq undef, Pr.eq undef, Pr.eq undef, Pr.eq undef, Pr.eq undef, Pr.eq undef, Pr.eq undef, Pr.eq undef, Pr.eq undef, Pr.eq undef, Pr.eq (.bool true)] (GrS w0)) (by kernel_rfl) (by kernel_rfl) (by kernel_rfl) ?_ ?_ ?_
        case refine_1 => exact fun V => GI.start (GrS.start _ _ _)
        case refine_2 =>
         refine .cons (fun V Ld a W hLi hpre hR hI KK hK => ?_) ?_
         ·
          have o7 := (hR.old 7 (by kernel_rfl)).trans (show _ = Value.int .i64 (-1) from rfl)
          exact G_move rfl (.tmp 7) rfl o7 (hI.u0 hK rfl)
         refine .cons (fun V Ld a W hLi hpre hR hI KK hK => ?_) ?_
         ·
          have f0 := hI.ef hR hpre 0 rfl rfl rfl (by kernel_rfl)
          exact J_binOp rfl .lss _ (.tmp 77) (.const (.int .i64 0)) _ rfl (by rw [f0]; exact bt_lss _ _ _ _ W (by omega)) (hI.u0 hK rfl)
         refine .mf 1 rfl rfl rfl rfl rfl (by kernel_rfl) rfl ?_
         refine .un 2 rfl rfl rfl rfl (by kernel_rfl) rfl ?_
         refine .un 2 rfl rfl rfl rfl (by kernel_rfl) rfl ?_
         refine .un 2 rfl rfl rfl rfl (by kernel_rfl) rfl ?_
         refine .un 2 rfl rfl rfl rfl (by kernel_rfl) rfl ?_
         refine .un 2 rfl rfl rfl rfl (by kernel_rfl) rfl ?_
         refine .un 2 rfl rfl rfl rfl (by kernel_rfl) rfl ?_
         refine .un 2 rfl rfl rfl rfl (by kernel_rfl) rfl ?_
         refine .un 2 rfl rfl rfl rfl (by kernel_rfl) rfl ?_
         refine .un 2 rfl rfl rfl rfl (by kernel_rfl) rfl ?_
         refine .cons (fun V Ld a W hLi hpre hR hI KK hK => ?_) ?_
         ·
          have f2 := hI.ef hR hpre 2 rfl rfl rfl (by kernel_rfl)
          exact G_pick rfl (.tmp 79) (.const (.bool true)) (.tmp 88) rfl f2 (show _ = _ from rfl) (hI.u0 hK rfl)
         refine .mf 12 rfl rfl rfl rfl rfl (by kernel_rfl) rfl ?_
         refine .un 13 rfl rfl rfl rfl (by kernel_rfl) rfl ?_
         refine .un 13 rfl rfl rfl rfl (by kernel_rfl) rfl ?_
         refine .un 13 rfl rfl rfl rfl (by kernel_rfl) rfl ?_
         refine .cons (fun V Ld a W hLi hpre hR hI KK hK => ?_) ?_
         ·
          have f13 := hI.ef hR hpre 13 rfl rfl rfl (by kernel_rfl)
          exact G_pick rfl (.tmp 90) (.const (.bool true)) (.tmp 93) rfl f13 (show _ = _ from rfl) (hI.u0 hK rfl)
         refine .mf 17 rfl rfl rfl rfl rfl (by kernel_rfl) rfl ?_
         refine .un 18 rfl rfl rfl rfl (by kernel_rfl) rfl ?_
         refine .un 18 rfl rfl rfl rfl (by kernel_rfl) rfl ?_
         refine .un 18 rfl rfl rfl rfl (by kernel_rfl) rfl ?_
         refine .un 18 rfl rfl rfl rfl (by kernel_rfl) rfl ?_
         refine .cons (fun V Ld a W hLi hpre hR hI KK hK => ?_) ?_
         ·
          have f18 := hI.ef hR hpre 18 rfl rfl rfl (by kernel_rfl)
          exact G_pick rfl (.tmp 95) (.const (.bool true)) (.tmp 99) rfl f18 (show _ = _ from rfl) (hI.u0 hK rfl)
         refine .mf 23 rfl rfl rfl rfl rfl (by kernel_rfl) rfl ?_
         refine .un 24 rfl rfl rfl rfl (by kernel_rfl) rfl ?_
         refine .un 24 rfl rfl rfl rfl (by kernel_rfl) rfl ?_
         refine .un 24 rfl rfl rfl rfl (by kernel_rfl) rfl ?_
         refine .unU 27 rfl rfl rfl rfl (by kernel_rfl) rfl ?_
         refine .unU 27 rfl rfl rfl rfl (by kernel_rfl) rfl ?_
         refine .unU 27 rfl rfl rfl rfl (by kernel_rfl) rfl ?_
         refine .unU 27 rfl rfl rfl rfl (by kernel_rfl) rfl ?_
         refine .unU 27 rfl rfl rfl rfl (by kernel_rfl) rfl ?_
         refine .unU 27 rfl rfl rfl rfl (by kernel_rfl) rfl ?_
         refine .unU 27 rfl rfl rfl rfl (by kernel_rfl) rfl ?_
         refine .unU 27 rfl rfl rfl rfl (by kernel_rfl) rfl ?_
         refine .unU 27 rfl rfl rfl rfl (by kernel_rfl) rfl ?_
         refine .unU 27 rfl rfl rfl rfl (by kernel_rfl) rfl ?_
         refine .un 24 rfl rfl rfl rfl (by kernel_rfl) rfl ?_
         refine .cons (fun V Ld a W hLi hpre hR hI KK hK => ?_) trivial
         ·
          have f24 := hI.ef hR hpre 24 rfl rfl rfl (by kernel_rfl)
          exact G_pick rfl (.tmp 101) (.const (.bool true)) (.tmp 115) rfl f24 (show _ = _ from rfl) (hI.u0 hK rfl)
        case refine_3 =>
         intro V Ld w9 hLd hI
         have e9 : V 39 = .bool true := hI.val 39 _ rfl (hLd 39 (by decide))
         have hb9 := hI.st.bl
         clear hI hLd
         simp only [finL, putL, Act.put, Nat.reduceAdd]
         rw [e9]
         clear e9
         generalize V 0 = v0, V 1 = v1
         generalize V 2 = v2, V 3 = v3
         generalize V 4 = v4, V 5 = v5
         generalize V 6 = v6, V 7 = v7
         generalize V 8 = v8, V 9 = v9
         generalize V 10 = v10, V 11 = v11
         generalize V 12 = v12, V 13 = v13
         generalize V 14 = v14, V 15 = v15
         generalize V 16 = v16, V 17 = v17
         generalize V 18 = v18, V 19 = v19
         generalize V 20 = v20, V 21 = v21
         generalize V 22 = v22, V 23 = v23
         generalize V 24 = v24, V 25 = v25
         generalize V 26 = v26, V 27 = v27
         generalize V 28 = v28, V 29 = v29
         generalize V 30 = v30, V 31 = v31
         generalize V 32 = v32, V 33 = v33
         generalize V 34 = v34, V 35 = v35
         generalize V 36 = v36, V 37 = v37, V 38 = v38
         clear V
         simp only [List.setIfInBounds_toArray, List.set_cons_succ, List.set_cons_zero]
         go_wp2_with fail
         go_ret
         exact RetB.int HV.out (HBW.out.trans ((HW0.out.trans (hb9.mono HW0.out.size)).mono HBW.out.size))
       ·
        have HF := Lib.hid (show fndC C (kAt K k).c = (f : Int) from hf)
        clear hf
        have hf2 : (0 : Int) ≤ (f : Int) := by omega
        have hf3 : (f : Int) < (C.length : Int) := by omega
        obtain ⟨b, off, x, rfl, hbx, -, -, x1, -, hx⟩ := (HC.out.below (below_trans HBW.out hb4)).elem hfl
        have X1a := Lib.hid x1
        have LB0 := Lib.hid hbx
        clear x1 hbx
        have hfc := find_any _ (kAt K k).c ⟨C, K⟩ w4 (HD.out.below (below_trans HBW.out hb4)) (show C.length ≤ 100000 by omega)
        rw [show fndC C (kAt K k).c = (f : Int) from HF.out] at hfc
        refine ret_below hfc fun w0 hb0 => ?_
        clear hfc
        have X1 := Lib.hid ((hb0.cell LB0.out).trans X1a.out)
        have LB := Lib.hid (Nat.lt_of_lt_of_le LB0.out hb0.size)
        clear X1a LB0
        have HW0 := Lib.hid (below_trans hb4 hb0)
        have VC := Lib.hid (VC0.out.below hb0)
        have LV := Lib.hid VC.out.lt
        have D0 := Lib.hid (HDC.out.below (below_trans HBR.out HW0.out)).c0
        have D1 := Lib.hid (HDC.out.below (below_trans HBR.out HW0.out)).c1
        have LD := Lib.hid (HDC.out.below (below_trans HBR.out HW0.out)).lt
        clear hb4 hb0 VC0
        cases q2 : eqS (cAt C f).o (kAt K k).o with
        | false =>
         have Q2 := Lib.hid q2
         clear q2
         have HV := Lib.hid (HBADK.out _ hlt (cas_2 HF.out Q2.out))
         have J2 := Lib.hid (show (x.o.toList == (kAt K k).o.toList) = false from by rw [hx.o]; exact Q2.out)
         clear hx
         go_wp2_with fail
         refine wp_region_J2 (GI (R := Bl) [Pr.eq (.int .i64 ((f : Int))), Pr.eq (.bool false), Pr.eq (.bool false), Pr.eq (.pointer (some ⟨w.heap.size, 0, none⟩)), Pr.eq (.slice (some ⟨b, off, none⟩) C.length ca), Pr.eq (.int .i64 ((f : Int))), Pr.eq (.pointer (some ⟨b, off + f * 3, none⟩)), Pr.eq (.pointer (some ⟨b, off + f * 3 + 1, none⟩)), Pr.eq (.string (x.o)), Pr.eq (.pointer (some ⟨wr.heap.size, 2, none⟩)), Pr.eq (.string ((kAt K k).o)), Pr.eq (.bool true), Pr.eq (.bool true), Pr.eq (.bool true), Pr.eq undef, Pr.eq undef, Pr.eq undef, Pr.eq (.bool true), Pr.eq (.bool true), Pr.eq undef, Pr.eq undef, Pr.eq undef, Pr.eq undef, Pr.eq (.bool true), Pr.eq (.bool true), Pr.eq undef, Pr.eq undef, Pr.eq undef, Pr.eq undef, Pr.eq undef, Pr.eq undef, Pr.eq undef, Pr.eq undef, Pr.eq undef, Pr.eq undef, Pr.eq undef, Pr.eq undef, Pr.eq undef, Pr.eq undef, Pr.eq (.bool true)] (GrS w0)) (by kernel_rfl) (by kernel_rfl) (by kernel_rfl) ?_ ?_ ?_
         case refine_1 => exact fun V => GI.start (GrS.start _ _ _)
         case refine_2 =>
          refine .cons (fun V Ld a W hLi hpre hR hI KK hK => ?_) ?_
          ·
           have o7 := (hR.old 7 (by kernel_rfl)).trans (show _ = Value.int .i64 ((f : Int)) from rfl)
           exact G_move rfl (.tmp 7) rfl o7 (hI.u0 hK rfl)
          refine .cons (fun V Ld a W hLi hpre hR hI KK hK => ?_) ?_
          ·
           have f0 := hI.ef hR hpre 0 rfl rfl rfl (by kernel_rfl)
           exact J_binOp rfl .lss _ (.tmp 77) (.const (.int .i64 0)) _ rfl (by rw [f0]; exact bf_lss _ _ _ _ W (by omega)) (hI.u0 hK rfl)
          refine .mf 1 rfl rfl rfl rfl rfl (by kernel_rfl) rfl ?_
          refine .cons (fun V Ld a W hLi hpre hR hI KK hK => ?_) ?_
          ·
           refine G_gw hI hR hpre 2 rfl rfl rfl rfl (by kernel_rfl) ?_
           have o1 := (hR.old 1 (by kernel_rfl)).trans (show _ = Value.pointer (some ⟨w.heap.size, 0, none⟩) from rfl)
           exact J_fieldAddr rfl _ (.tmp 1) 0 rfl (by rw [o1]; go_simp) (hI.u0 hK rfl)
          refine .cons (fun V Ld a W hLi hpre hR hI KK hK => ?_) ?_
          ·
           refine G_gw hI hR hpre 2 rfl rfl rfl rfl (by kernel_rfl) ?_
           have f3 := hI.ef hR hpre 3 rfl rfl rfl (by kernel_rfl)
           have c := (hI.st.bl.cell LD.out).trans D0.out
           exact J_load rfl _ (.tmp 80) rfl (by rw [f3]; go_simp) (hI.u0 hK rfl)
          refine .cons (fun V Ld a W hLi hpre hR hI KK hK => ?_) ?_
          ·
           refine G_gw hI hR hpre 2 rfl rfl rfl rfl (by kernel_rfl) ?_
           have o7 := (hR.old 7 (by kernel_rfl)).trans (show _ = Value.int .i64 ((f : Int)) from rfl)
           exact G_move rfl (.tmp 7) rfl o7 (hI.u0 hK rfl)
          refine .cons (fun V Ld a W hLi hpre hR hI KK hK => ?_) ?_
          ·
           refine G_gw hI hR hpre 2 rfl rfl rfl rfl (by kernel_rfl) ?_
           have f4 := hI.ef hR hpre 4 rfl rfl rfl (by kernel_rfl)
           have f5 := hI.ef hR hpre 5 rfl rfl rfl (by kernel_rfl)
           exact J_indexAddr rfl _ (.tmp 81) (.tmp 82) rfl (by rw [f4, f5]; go_simp) (hI.u0 hK rfl)
          refine .cons (fun V Ld a W hLi hpre hR hI KK hK => ?_) ?_
          ·
           refine G_gw hI hR hpre 2 rfl rfl rfl rfl (by kernel_rfl) ?_
           have f6 := hI.ef hR hpre 6 rfl rfl rfl (by kernel_rfl)
           exact J_fieldAddr rfl _ (.tmp 83) 1 rfl (by rw [f6]; go_simp) (hI.u0 hK rfl)
          refine .cons (fun V Ld a W hLi hpre hR hI KK hK => ?_) ?_
          ·
           refine G_gw hI hR hpre 2 rfl rfl rfl rfl (by kernel_rfl) ?_
           have f7 := hI.ef hR hpre 7 rfl rfl rfl (by kernel_rfl)
           have c := (hI.st.bl.cell LB.out).trans X1.out
           exact J_load rfl _ (.tmp 84) rfl (by rw [f7]; go_simp) (hI.u0 hK rfl)
          refine .cons (fun V Ld a W hLi hpre hR hI KK hK => ?_) ?_
          ·
           refine G_gw hI hR hpre 2 rfl rfl rfl rfl (by kernel_rfl) ?_
           have o6 := (hR.old 6 (by kernel_rfl)).trans (show _ = Value.pointer (some ⟨wr.heap.size, 0, none⟩) from rfl)
           exact J_fieldAddr rfl _ (.tmp 6) 2 rfl (by rw [o6]; go_simp) (hI.u0 hK rfl)
          refine .cons (fun V Ld a W hLi hpre hR hI KK hK => ?_) ?_
          ·
           refine G_gw hI hR hpre 2 rfl rfl rfl rfl (by kernel_rfl) ?_
           have f9 := hI.ef hR hpre 9 rfl rfl rfl (by kernel_rfl)
           have c := (hI.st.bl.cell LV.out).trans VC.out.c2
           exact J_load rfl _ (.tmp 86) rfl (by rw [f9]; go_simp) (hI.u0 hK rfl)
          refine .cons (fun V Ld a W hLi hpre hR hI KK hK => ?_) ?_
          ·
           refine G_gw hI hR hpre 2 rfl rfl rfl rfl (by kernel_rfl) ?_
           have f8 := hI.ef hR hpre 8 rfl rfl rfl (by kernel_rfl)
           have f10 := hI.ef hR hpre 10 rfl rfl rfl (by kernel_rfl)
           exact J_binOp rfl .neq _ (.tmp 85) (.tmp 87) _ rfl (by rw [f8, f10]; exact bt_neS _ _ _ _ W J2.out) (hI.u0 hK rfl)
          refine .cons (fun V Ld a W hLi hpre hR hI KK hK => ?_) ?_
          ·
           have f2 := hI.ef hR hpre 2 rfl rfl rfl (by kernel_rfl)
           have f11 := hI.ef hR hpre 11 rfl rfl rfl (by kernel_rfl)
           exact G_pick rfl (.tmp 79) (.const (.bool true)) (.tmp 88) rfl f2 (show _ = _ from f11) (hI.u0 hK rfl)
          refine .mf 12 rfl rfl rfl rfl rfl (by kernel_rfl) rfl ?_
          refine .un 13 rfl rfl rfl rfl (by kernel_rfl) rfl ?_
          refine .un 13 rfl rfl rfl rfl (by kernel_rfl) rfl ?_
          refine .un 13 rfl rfl rfl rfl (by kernel_rfl) rfl ?_
          refine .cons (fun V Ld a W hLi hpre hR hI KK hK => ?_) ?_
          ·
           have f13 := hI.ef hR hpre 13 rfl rfl rfl (by kernel_rfl)
           exact G_pick rfl (.tmp 90) (.const (.bool true)) (.tmp 93) rfl f13 (show _ = _ from rfl) (hI.u0 hK rfl)
          refine .mf 17 rfl rfl rfl rfl rfl (by kernel_rfl) rfl ?_
          refine .un 18 rfl rfl rfl rfl (by kernel_rfl) rfl ?_
          refine .un 18 rfl rfl rfl rfl (by kernel_rfl) rfl ?_
          refine .un 18 rfl rfl rfl rfl (by kernel_rfl) rfl ?_
          refine .un 18 rfl rfl rfl rfl (by kernel_rfl) rfl ?_
          refine .cons (fun V Ld a W hLi hpre hR hI KK hK => ?_) ?_
          ·
           have f18 := hI.ef hR hpre 18 rfl rfl rfl (by kernel_rfl)
           exact G_pick rfl (.tmp 95) (.const (.bool true)) (.tmp 99) rfl f18 (show _ = _ from rfl) (hI.u0 hK rfl)
          refine .mf 23 rfl rfl rfl rfl rfl (by kernel_rfl) rfl ?_
          refine .un 24 rfl rfl rfl rfl (by kernel_rfl) rfl ?_
          refine .un 24 rfl rfl rfl rfl (by kernel_rfl) rfl ?_
          refine .un 24 rfl rfl rfl rfl (by kernel_rfl) rfl ?_
          refine .unU 27 rfl rfl rfl rfl (by kernel_rfl) rfl ?_
          refine .unU 27 rfl rfl rfl rfl (by kernel_rfl) rfl ?_
          refine .unU 27 rfl rfl rfl rfl (by kernel_rfl) rfl ?_
          refine .unU 27 rfl rfl rfl rfl (by kernel_rfl) rfl ?_
          refine .unU 27 rfl rfl rfl rfl (by kernel_rfl) rfl ?_
          refine .unU 27 rfl rfl rfl rfl (by kernel_rfl) rfl ?_
          refine .unU 27 rfl rfl rfl rfl (by kernel_rfl) rfl ?_
          refine .unU 27 rfl rfl rfl rfl (by kernel_rfl) rfl ?_
          refine .unU 27 rfl rfl rfl rfl (by kernel_rfl) rfl ?_
          refine .unU 27 rfl rfl rfl rfl (by kernel_rfl) rfl ?_
          refine .un 24 rfl rfl rfl rfl (by kernel_rfl) rfl ?_
          refine .cons (fun V Ld a W hLi hpre hR hI KK hK => ?_) trivial
          ·
           have f24 := hI.ef hR hpre 24 rfl rfl rfl (by kernel_rfl)
           exact G_pick rfl (.tmp 101) (.const (.bool true)) (.tmp 115) rfl f24 (show _ = _ from rfl) (hI.u0 hK rfl)
         case refine_3 =>
          intro V Ld w9 hLd hI
          have e9 : V 39 = .bool true := hI.val 39 _ rfl (hLd 39 (by decide))
          have hb9 := hI.st.bl
          clear hI hLd
          simp only [finL, putL, Act.put, Nat.reduceAdd]
          rw [e9]
          clear e9
          generalize V 0 = v0, V 1 = v1
          generalize V 2 = v2, V 3 = v3
          generalize V 4 = v4, V 5 = v5
          generalize V 6 = v6, V 7 = v7
          generalize V 8 = v8, V 9 = v9
          generalize V 10 = v10, V 11 = v11
          generalize V 12 = v12, V 13 = v13
          generalize V 14 = v14, V 15 = v15
          generalize V 16 = v16, V 17 = v17
          generalize V 18 = v18, V 19 = v19
          generalize V 20 = v20, V 21 = v21
          generalize V 22 = v22, V 23 = v23
          generalize V 24 = v24, V 25 = v25
          generalize V 26 = v26, V 27 = v27
          generalize V 28 = v28, V 29 = v29
          generalize V 30 = v30, V 31 = v31
          generalize V 32 = v32, V 33 = v33
          generalize V 34 = v34, V 35 = v35
          generalize V 36 = v36, V 37 = v37, V 38 = v38
          clear V
          simp only [List.setIfInBounds_toArray, List.set_cons_succ, List.set_cons_zero]
          go_wp2_with fail
          go_ret
          exact RetB.int HV.out (HBW.out.trans ((HW0.out.trans (hb9.mono HW0.out.size)).mono HBW.out.size))
        | true =>
         have Q2 := Lib.hid q2
         clear q2
         cases q3 : lngB (kAt K k).r with
         | true =>
          have Q3 := Lib.hid q3
          clear q3
          have HV := Lib.hid (HBADK.out _ hlt (cas_3 Q3.out))
          have J2 := Lib.hid (show (x.o.toList == (kAt K k).o.toList) = true from by rw [hx.o]; exact Q2.out)
          clear hx
          go_wp2_with fail
          refine wp_region_J2 (GI (R := Bl) [Pr.eq (.int .i64 ((f : Int))), Pr.eq (.bool false), Pr.eq (.bool false), Pr.eq (.pointer (some ⟨w.heap.size, 0, none⟩)), Pr.eq (.slice (some ⟨b, off, none⟩) C.length ca), Pr.eq (.int .i64 ((f : Int))), Pr.eq (.pointer (some ⟨b, off + f * 3, none⟩)), Pr.eq (.pointer (some ⟨b, off + f * 3 + 1, none⟩)), Pr.eq (.string (x.o)), Pr.eq (.pointer (some ⟨wr.heap.size, 2, none⟩)), Pr.eq (.string ((kAt K k).o)), Pr.eq (.bool false), Pr.eq (.bool false), Pr.eq (.bool false), Pr.eq (.pointer (some ⟨wr.heap.size, 1, none⟩)), Pr.eq (.string ((kAt K k).r)), Pr.eq (.bool true), Pr.eq (.bool true), Pr.eq (.bool true), Pr.eq undef, Pr.eq undef, Pr.eq undef, Pr.eq undef, Pr.eq (.bool true), Pr.eq (.bool true), Pr.eq undef, Pr.eq undef, Pr.eq undef, Pr.eq undef, Pr.eq undef, Pr.eq undef, Pr.eq undef, Pr.eq undef, Pr.eq undef, Pr.eq undef, Pr.eq undef, Pr.eq undef, Pr.eq undef, Pr.eq undef, Pr.eq (.bool true)] (GrS w0)) (by kernel_rfl) (by kernel_rfl) (by kernel_rfl) ?_ ?_ ?_
          case refine_1 => exact fun V => GI.start (GrS.start _ _ _)
          case refine_2 =>
           refine .cons (fun V Ld a W hLi hpre hR hI KK hK => ?_) ?_
           ·
            have o7 := (hR.old 7 (by kernel_rfl)).trans (show _ = Value.int .i64 ((f : Int)) from rfl)
            exact G_move rfl (.tmp 7) rfl o7 (hI.u0 hK rfl)
           refine .cons (fun V Ld a W hLi hpre hR hI KK hK => ?_) ?_
           ·
            have f0 := hI.ef hR hpre 0 rfl rfl rfl (by kernel_rfl)
            exact J_binOp rfl .lss _ (.tmp 77) (.const (.int .i64 0)) _ rfl (by rw [f0]; exact bf_lss _ _ _ _ W (by omega)) (hI.u0 hK rfl)
           refine .mf 1 rfl rfl rfl rfl rfl (by kernel_rfl) rfl ?_
           refine .cons (fun V Ld a W hLi hpre hR hI KK hK => ?_) ?_
           ·
            refine G_gw hI hR hpre 2 rfl rfl rfl rfl (by kernel_rfl) ?_
            have o1 := (hR.old 1 (by kernel_rfl)).trans (show _ = Value.pointer (some ⟨w.heap.size, 0, none⟩) from rfl)
            exact J_fieldAddr rfl _ (.tmp 1) 0 rfl (by rw [o1]; go_simp) (hI.u0 hK rfl)
           refine .cons (fun V Ld a W hLi hpre hR hI KK hK => ?_) ?_
           ·
            refine G_gw hI hR hpre 2 rfl rfl rfl rfl (by kernel_rfl) ?_
            have f3 := hI.ef hR hpre 3 rfl rfl rfl (by kernel_rfl)
            have c := (hI.st.bl.cell LD.out).trans D0.out
            exact J_load rfl _ (.tmp 80) rfl (by rw [f3]; go_simp) (hI.u0 hK rfl)
           refine .cons (fun V Ld a W hLi hpre hR hI KK hK => ?_) ?_
           ·
            refine G_gw hI hR hpre 2 rfl rfl rfl rfl (by kernel_rfl) ?_
            have o7 := (hR.old 7 (by kernel_rfl)).trans (show _ = Value.int .i64 ((f : Int)) from rfl)
            exact G_move rfl (.tmp 7) rfl o7 (hI.u0 hK rfl)
           refine .cons (fun V Ld a W hLi hpre hR hI KK hK => ?_) ?_
           ·
            refine G_gw hI hR hpre 2 rfl rfl rfl rfl (by kernel_rfl) ?_
            have f4 := hI.ef hR hpre 4 rfl rfl rfl (by kernel_rfl)
            have f5 := hI.ef hR hpre 5 rfl rfl rfl (by kernel_rfl)
            exact J_indexAddr rfl _ (.tmp 81) (.tmp 82) rfl (by rw [f4, f5]; go_simp) (hI.u0 hK rfl)
           refine .cons (fun V Ld a W hLi hpre hR hI KK hK => ?_) ?_
           ·
            refine G_gw hI hR hpre 2 rfl rfl rfl rfl (by kernel_rfl) ?_
            have f6 := hI.ef hR hpre 6 rfl rfl rfl (by kernel_rfl)
            exact J_fieldAddr rfl _ (.tmp 83) 1 rfl (by rw [f6]; go_simp) (hI.u0 hK rfl)
           refine .cons (fun V Ld a W hLi hpre hR hI KK hK => ?_) ?_
           ·
            refine G_gw hI hR hpre 2 rfl rfl rfl rfl (by kernel_rfl) ?_
            have f7 := hI.ef hR hpre 7 rfl rfl rfl (by kernel_rfl)
            have c := (hI.st.bl.cell LB.out).trans X1.out
            exact J_load rfl _ (.tmp 84) rfl (by rw [f7]; go_simp) (hI.u0 hK rfl)
           refine .cons (fun V Ld a W hLi hpre hR hI KK hK => ?_) ?_
           ·
            refine G_gw hI hR hpre 2 rfl rfl rfl rfl (by kernel_rfl) ?_
            have o6 := (hR.old 6 (by kernel_rfl)).trans (show _ = Value.pointer (some ⟨wr.heap.size, 0, none⟩) from rfl)
            exact J_fieldAddr rfl _ (.tmp 6) 2 rfl (by rw [o6]; go_simp) (hI.u0 hK rfl)
           refine .cons (fun V Ld a W hLi hpre hR hI KK hK => ?_) ?_
           ·
            refine G_gw hI hR hpre 2 rfl rfl rfl rfl (by kernel_rfl) ?_
            have f9 := hI.ef hR hpre 9 rfl rfl rfl (by kernel_rfl)
            have c := (hI.st.bl.cell LV.out).trans VC.out.c2
            exact J_load rfl _ (.tmp 86) rfl (by rw [f9]; go_simp) (hI.u0 hK rfl)
           refine .cons (fun V Ld a W hLi hpre hR hI KK hK => ?_) ?_
           ·
            refine G_gw hI hR hpre 2 rfl rfl rfl rfl (by kernel_rfl) ?_
            have f8 := hI.ef hR hpre 8 rfl rfl rfl (by kernel_rfl)
            have f10 := hI.ef hR hpre 10 rfl rfl rfl (by kernel_rfl)
            exact J_binOp rfl .neq _ (.tmp 85) (.tmp 87) _ rfl (by rw [f8, f10]; exact bf_neS _ _ _ _ W J2.out) (hI.u0 hK rfl)
           refine .cons (fun V Ld a W hLi hpre hR hI KK hK => ?_) ?_
           ·
            have f2 := hI.ef hR hpre 2 rfl rfl rfl (by kernel_rfl)
            have f11 := hI.ef hR hpre 11 rfl rfl rfl (by kernel_rfl)
            exact G_pick rfl (.tmp 79) (.const (.bool true)) (.tmp 88) rfl f2 (show _ = _ from f11) (hI.u0 hK rfl)
           refine .mf 12 rfl rfl rfl rfl rfl (by kernel_rfl) rfl ?_
           refine .cons (fun V Ld a W hLi hpre hR hI KK hK => ?_) ?_
           ·
            refine G_gw hI hR hpre 13 rfl rfl rfl rfl (by kernel_rfl) ?_
            have o6 := (hR.old 6 (by kernel_rfl)).trans (show _ = Value.pointer (some ⟨wr.heap.size, 0, none⟩) from rfl)
            exact J_fieldAddr rfl _ (.tmp 6) 1 rfl (by rw [o6]; go_simp) (hI.u0 hK rfl)
           refine .cons (fun V Ld a W hLi hpre hR hI KK hK => ?_) ?_
           ·
            refine G_gw hI hR hpre 13 rfl rfl rfl rfl (by kernel_rfl) ?_
            have f14 := hI.ef hR hpre 14 rfl rfl rfl (by kernel_rfl)
            have c := (hI.st.bl.cell LV.out).trans VC.out.c1
            exact J_load rfl _ (.tmp 91) rfl (by rw [f14]; go_simp) (hI.u0 hK rfl)
           refine .cons (fun V Ld a W hLi hpre hR hI KK hK => ?_) ?_
           ·
            refine G_gw hI hR hpre 13 rfl rfl rfl rfl (by kernel_rfl) ?_
            have f15 := hI.ef hR hpre 15 rfl rfl rfl (by kernel_rfl)
            refine J_call rfl _ _ _ rfl enter_long (by simp only [List.map_toArray, List.map_cons, List.map_nil, f15]) (long_is (kAt K k).r _ Q3.out W (HSK.out k hlt).1) ?_
            rintro e w' ⟨rfl, rfl⟩
            exact ⟨_, rfl, (hI.u0 hK rfl)⟩
           refine .cons (fun V Ld a W hLi hpre hR hI KK hK => ?_) ?_
           ·
            have f13 := hI.ef hR hpre 13 rfl rfl rfl (by kernel_rfl)
            have f16 := hI.ef hR hpre 16 rfl rfl rfl (by kernel_rfl)
            exact G_pick rfl (.tmp 90) (.const (.bool true)) (.tmp 93) rfl f13 (show _ = _ from f16) (hI.u0 hK rfl)
           refine .mf 17 rfl rfl rfl rfl rfl (by kernel_rfl) rfl ?_
           refine .un 18 rfl rfl rfl rfl (by kernel_rfl) rfl ?_
           refine .un 18 rfl rfl rfl rfl (by kernel_rfl) rfl ?_
           refine .un 18 rfl rfl rfl rfl (by kernel_rfl) rfl ?_
           refine .un 18 rfl rfl rfl rfl (by kernel_rfl) rfl ?_
           refine .cons (fun V Ld a W hLi hpre hR hI KK hK => ?_) ?_
           ·
            have f18 := hI.ef hR hpre 18 rfl rfl rfl (by kernel_rfl)
            exact G_pick rfl (.tmp 95) (.const (.bool true)) (.tmp 99) rfl f18 (show _ = _ from rfl) (hI.u0 hK rfl)
           refine .mf 23 rfl rfl rfl rfl rfl (by kernel_rfl) rfl ?_
           refine .un 24 rfl rfl rfl rfl (by kernel_rfl) rfl ?_
           refine .un 24 rfl rfl rfl rfl (by kernel_rfl) rfl ?_
           refine .un 24 rfl rfl rfl rfl (by kernel_rfl) rfl ?_
           refine .unU 27 rfl rfl rfl rfl (by kernel_rfl) rfl ?_
           refine .unU 27 rfl rfl rfl rfl (by kernel_rfl) rfl ?_
           refine .unU 27 rfl rfl rfl rfl (by kernel_rfl) rfl ?_
           refine .unU 27 rfl rfl rfl rfl (by kernel_rfl) rfl ?_
           refine .unU 27 rfl rfl rfl rfl (by kernel_rfl) rfl ?_
           refine .unU 27 rfl rfl rfl rfl (by kernel_rfl) rfl ?_
           refine .unU 27 rfl rfl rfl rfl (by kernel_rfl) rfl ?_
           refine .unU 27 rfl rfl rfl rfl (by kernel_rfl) rfl ?_
           refine .unU 27 rfl rfl rfl rfl (by kernel_rfl) rfl ?_
           refine .unU 27 rfl rfl rfl rfl (by kernel_rfl) rfl ?_
           refine .un 24 rfl rfl rfl rfl (by kernel_rfl) rfl ?_
           refine .cons (fun V Ld a W hLi hpre hR hI KK hK => ?_) trivial
           ·
            have f24 := hI.ef hR hpre 24 rfl rfl rfl (by kernel_rfl)
            exact G_pick rfl (.tmp 101) (.const (.bool true)) (.tmp 115) rfl f24 (show _ = _ from rfl) (hI.u0 hK rfl)
          case refine_3 =>
           intro V Ld w9 hLd hI
           have e9 : V 39 = .bool true := hI.val 39 _ rfl (hLd 39 (by decide))
           have hb9 := hI.st.bl
           clear hI hLd
           simp only [finL, putL, Act.put, Nat.reduceAdd]
           rw [e9]
           clear e9
           generalize V 0 = v0, V 1 = v1
           generalize V 2 = v2, V 3 = v3
           generalize V 4 = v4, V 5 = v5
           generalize V 6 = v6, V 7 = v7
           generalize V 8 = v8, V 9 = v9
           generalize V 10 = v10, V 11 = v11
           generalize V 12 = v12, V 13 = v13
           generalize V 14 = v14, V 15 = v15
           generalize V 16 = v16, V 17 = v17
           generalize V 18 = v18, V 19 = v19
           generalize V 20 = v20, V 21 = v21
           generalize V 22 = v22, V 23 = v23
           generalize V 24 = v24, V 25 = v25
           generalize V 26 = v26, V 27 = v27
           generalize V 28 = v28, V 29 = v29
           generalize V 30 = v30, V 31 = v31
           generalize V 32 = v32, V 33 = v33
           generalize V 34 = v34, V 35 = v35
           generalize V 36 = v36, V 37 = v37, V 38 = v38
           clear V
           simp only [List.setIfInBounds_toArray, List.set_cons_succ, List.set_cons_zero]
           go_wp2_with fail
           go_ret
           exact RetB.int HV.out (HBW.out.trans ((HW0.out.trans (hb9.mono HW0.out.size)).mono HBW.out.size))
         | false =>
          have Q3 := Lib.hid q3
          clear q3
          cases q4 : inI (kAt K k).t 0 1099511627776 with
          | false =>
           have Q4 := Lib.hid q4
           clear q4
           have HV := Lib.hid (HBADK.out _ hlt (cas_4 Q4.out))
           have J2 := Lib.hid (show (x.o.toList == (kAt K k).o.toList) = true from by rw [hx.o]; exact Q2.out)
           clear hx
           go_wp2_with fail
           refine wp_region_J2 (GI (R := Bl) [Pr.eq (.int .i64 ((f : Int))), Pr.eq (.bool false), Pr.eq (.bool false), Pr.eq (.pointer (some ⟨w.heap.size, 0, none⟩)), Pr.eq (.slice (some ⟨b, off, none⟩) C.length ca), Pr.eq (.int .i64 ((f : Int))), Pr.eq (.pointer (some ⟨b, off + f * 3, none⟩)), Pr.eq (.pointer (some ⟨b, off + f * 3 + 1, none⟩)), Pr.eq (.string (x.o)), Pr.eq (.pointer (some ⟨wr.heap.size, 2, none⟩)), Pr.eq (.string ((kAt K k).o)), Pr.eq (.bool false), Pr.eq (.bool false), Pr.eq (.bool false), Pr.eq (.pointer (some ⟨wr.heap.size, 1, none⟩)), Pr.eq (.string ((kAt K k).r)), Pr.eq (.bool false), Pr.eq (.bool false), Pr.eq (.bool false), Pr.eq (.pointer (some ⟨wr.heap.size, 3, none⟩)), Pr.eq (.int .i64 ((kAt K k).t)), Pr.eq (.bool false), Pr.eq (.bool true), Pr.eq (.bool true), Pr.eq (.bool true), Pr.eq undef, Pr.eq undef, Pr.eq undef, Pr.eq undef, Pr.eq undef, Pr.eq undef, Pr.eq undef, Pr.eq undef, Pr.eq undef, Pr.eq undef, Pr.eq undef, Pr.eq undef, Pr.eq undef, Pr.eq undef, Pr.eq (.bool true)] (GrS w0)) (by kernel_rfl) (by kernel_rfl) (by kernel_rfl) ?_ ?_ ?_
           case refine_1 => exact fun V => GI.start (GrS.start _ _ _)
           case refine_2 =>
            refine .cons (fun V Ld a W hLi hpre hR hI KK hK => ?_) ?_
            ·
             have o7 := (hR.old 7 (by kernel_rfl)).trans (show _ = Value.int .i64 ((f : Int)) from rfl)
             exact G_move rfl (.tmp 7) rfl o7 (hI.u0 hK rfl)
            refine .cons (fun V Ld a W hLi hpre hR hI KK hK => ?_) ?_
            ·
             have f0 := hI.ef hR hpre 0 rfl rfl rfl (by kernel_rfl)
             exact J_binOp rfl .lss _ (.tmp 77) (.const (.int .i64 0)) _ rfl (by rw [f0]; exact bf_lss _ _ _ _ W (by omega)) (hI.u0 hK rfl)
            refine .mf 1 rfl rfl rfl rfl rfl (by kernel_rfl) rfl ?_
            refine .cons (fun V Ld a W hLi hpre hR hI KK hK => ?_) ?_
            ·
             refine G_gw hI hR hpre 2 rfl rfl rfl rfl (by kernel_rfl) ?_
             have o1 := (hR.old 1 (by kernel_rfl)).trans (show _ = Value.pointer (some ⟨w.heap.size, 0, none⟩) from rfl)
             exact J_fieldAddr rfl _ (.tmp 1) 0 rfl (by rw [o1]; go_simp) (hI.u0 hK rfl)
            refine .cons (fun V Ld a W hLi hpre hR hI KK hK => ?_) ?_
            ·
             refine G_gw hI hR hpre 2 rfl rfl rfl rfl (by kernel_rfl) ?_
             have f3 := hI.ef hR hpre 3 rfl rfl rfl (by kernel_rfl)
             have c := (hI.st.bl.cell LD.out).trans D0.out
             exact J_load rfl _ (.tmp 80) rfl (by rw [f3]; go_simp) (hI.u0 hK rfl)
            refine .cons (fun V Ld a W hLi hpre hR hI KK hK => ?_) ?_
            ·
             refine G_gw hI hR hpre 2 rfl rfl rfl rfl (by kernel_rfl) ?_
             have o7 := (hR.old 7 (by kernel_rfl)).trans (show _ = Value.int .i64 ((f : Int)) from rfl)
             exact G_move rfl (.tmp 7) rfl o7 (hI.u0 hK rfl)
            refine .cons (fun V Ld a W hLi hpre hR hI KK hK => ?_) ?_
            ·
             refine G_gw hI hR hpre 2 rfl rfl rfl rfl (by kernel_rfl) ?_
             have f4 := hI.ef hR hpre 4 rfl rfl rfl (by kernel_rfl)
             have f5 := hI.ef hR hpre 5 rfl rfl rfl (by kernel_rfl)
             exact J_indexAddr rfl _ (.tmp 81) (.tmp 82) rfl (by rw [f4, f5]; go_simp) (hI.u0 hK rfl)
            refine .cons (fun V Ld a W hLi hpre hR hI KK hK => ?_) ?_
            ·
             refine G_gw hI hR hpre 2 rfl rfl rfl rfl (by kernel_rfl) ?_
             have f6 := hI.ef hR hpre 6 rfl rfl rfl (by kernel_rfl)
             exact J_fieldAddr rfl _ (.tmp 83) 1 rfl (by rw [f6]; go_simp) (hI.u0 hK rfl)
            refine .cons (fun V Ld a W hLi hpre hR hI KK hK => ?_) ?_
            ·
             refine G_gw hI hR hpre 2 rfl rfl rfl rfl (by kernel_rfl) ?_
             have f7 := hI.ef hR hpre 7 rfl rfl rfl (by kernel_rfl)
             have c := (hI.st.bl.cell LB.out).trans X1.out
             exact J_load rfl _ (.tmp 84) rfl (by rw [f7]; go_simp) (hI.u0 hK rfl)
            refine .cons (fun V Ld a W hLi hpre hR hI KK hK => ?_) ?_
            ·
             refine G_gw hI hR hpre 2 rfl rfl rfl rfl (by kernel_rfl) ?_
             have o6 := (hR.old 6 (by kernel_rfl)).trans (show _ = Value.pointer (some ⟨wr.heap.size, 0, none⟩) from rfl)
             exact J_fieldAddr rfl _ (.tmp 6) 2 rfl (by rw [o6]; go_simp) (hI.u0 hK rfl)
            refine .cons (fun V Ld a W hLi hpre hR hI KK hK => ?_) ?_
            ·
             refine G_gw hI hR hpre 2 rfl rfl rfl rfl (by kernel_rfl) ?_
             have f9 := hI.ef hR hpre 9 rfl rfl rfl (by kernel_rfl)
             have c := (hI.st.bl.cell LV.out).trans VC.out.c2
             exact J_load rfl _ (.tmp 86) rfl (by rw [f9]; go_simp) (hI.u0 hK rfl)
            refine .cons (fun V Ld a W hLi hpre hR hI KK hK => ?_) ?_
            ·
             refine G_gw hI hR hpre 2 rfl rfl rfl rfl (by kernel_rfl) ?_
             have f8 := hI.ef hR hpre 8 rfl rfl rfl (by kernel_rfl)
             have f10 := hI.ef hR hpre 10 rfl rfl rfl (by kernel_rfl)
             exact J_binOp rfl .neq _ (.tmp 85) (.tmp 87) _ rfl (by rw [f8, f10]; exact bf_neS _ _ _ _ W J2.out) (hI.u0 hK rfl)
            refine .cons (fun V Ld a W hLi hpre hR hI KK hK => ?_) ?_
            ·
             have f2 := hI.ef hR hpre 2 rfl rfl rfl (by kernel_rfl)
             have f11 := hI.ef hR hpre 11 rfl rfl rfl (by kernel_rfl)
             exact G_pick rfl (.tmp 79) (.const (.bool true)) (.tmp 88) rfl f2 (show _ = _ from f11) (hI.u0 hK rfl)
            refine .mf 12 rfl rfl rfl rfl rfl (by kernel_rfl) rfl ?_
            refine .cons (fun V Ld a W hLi hpre hR hI KK hK => ?_) ?_
            ·
             refine G_gw hI hR hpre 13 rfl rfl rfl rfl (by kernel_rfl) ?_
             have o6 := (hR.old 6 (by kernel_rfl)).trans (show _ = Value.pointer (some ⟨wr.heap.size, 0, none⟩) from rfl)
             exact J_fieldAddr rfl _ (.tmp 6) 1 rfl (by rw [o6]; go_simp) (hI.u0 hK rfl)
            refine .cons (fun V Ld a W hLi hpre hR hI KK hK => ?_) ?_
            ·
             refine G_gw hI hR hpre 13 rfl rfl rfl rfl (by kernel_rfl) ?_
             have f14 := hI.ef hR hpre 14 rfl rfl rfl (by kernel_rfl)
             have c := (hI.st.bl.cell LV.out).trans VC.out.c1
             exact J_load rfl _ (.tmp 91) rfl (by rw [f14]; go_simp) (hI.u0 hK rfl)
            refine .cons (fun V Ld a W hLi hpre hR hI KK hK => ?_) ?_
            ·
             refine G_gw hI hR hpre 13 rfl rfl rfl rfl (by kernel_rfl) ?_
             have f15 := hI.ef hR hpre 15 rfl rfl rfl (by kernel_rfl)
             refine J_call rfl _ _ _ rfl enter_long (by simp only [List.map_toArray, List.map_cons, List.map_nil, f15]) (long_is (kAt K k).r _ Q3.out W (HSK.out k hlt).1) ?_
             rintro e w' ⟨rfl, rfl⟩
             exact ⟨_, rfl, (hI.u0 hK rfl)⟩
            refine .cons (fun V Ld a W hLi hpre hR hI KK hK => ?_) ?_
            ·
             have f13 := hI.ef hR hpre 13 rfl rfl rfl (by kernel_rfl)
             have f16 := hI.ef hR hpre 16 rfl rfl rfl (by kernel_rfl)
             exact G_pick rfl (.tmp 90) (.const (.bool true)) (.tmp 93) rfl f13 (show _ = _ from f16) (hI.u0 hK rfl)
            refine .mf 17 rfl rfl rfl rfl rfl (by kernel_rfl) rfl ?_
            refine .cons (fun V Ld a W hLi hpre hR hI KK hK => ?_) ?_
            ·
             refine G_gw hI hR hpre 18 rfl rfl rfl rfl (by kernel_rfl) ?_
             have o6 := (hR.old 6 (by kernel_rfl)).trans (show _ = Value.pointer (some ⟨wr.heap.size, 0, none⟩) from rfl)
             exact J_fieldAddr rfl _ (.tmp 6) 3 rfl (by rw [o6]; go_simp) (hI.u0 hK rfl)
            refine .cons (fun V Ld a W hLi hpre hR hI KK hK => ?_) ?_
            ·
             refine G_gw hI hR hpre 18 rfl rfl rfl rfl (by kernel_rfl) ?_
             have f19 := hI.ef hR hpre 19 rfl rfl rfl (by kernel_rfl)
             have c := (hI.st.bl.cell LV.out).trans VC.out.c3
             exact J_load rfl _ (.tmp 96) rfl (by rw [f19]; go_simp) (hI.u0 hK rfl)
            refine .cons (fun V Ld a W hLi hpre hR hI KK hK => ?_) ?_
            ·
             refine G_gw hI hR hpre 18 rfl rfl rfl rfl (by kernel_rfl) ?_
             have f20 := hI.ef hR hpre 20 rfl rfl rfl (by kernel_rfl)
             refine J_call rfl _ _ _ rfl enter_in (by simp only [List.map_toArray, List.map_cons, List.map_nil, f20]; rfl) (in_no _ _ _ Q4.out W) ?_
             rintro e w' ⟨rfl, rfl⟩
             exact ⟨_, rfl, (hI.u0 hK rfl)⟩
            refine .cons (fun V Ld a W hLi hpre hR hI KK hK => ?_) ?_
            ·
             refine G_gw hI hR hpre 18 rfl rfl rfl rfl (by kernel_rfl) ?_
             have f21 := hI.ef hR hpre 21 rfl rfl rfl (by kernel_rfl)
             exact G_unOp rfl .not _ (.tmp 98) rfl (by rw [f21]; go_simp) (hI.u0 hK rfl)
            refine .cons (fun V Ld a W hLi hpre hR hI KK hK => ?_) ?_
            ·
             have f18 := hI.ef hR hpre 18 rfl rfl rfl (by kernel_rfl)
             have f22 := hI.ef hR hpre 22 rfl rfl rfl (by kernel_rfl)
             exact G_pick rfl (.tmp 95) (.const (.bool true)) (.tmp 99) rfl f18 (show _ = _ from f22) (hI.u0 hK rfl)
            refine .mf 23 rfl rfl rfl rfl rfl (by kernel_rfl) rfl ?_
            refine .un 24 rfl rfl rfl rfl (by kernel_rfl) rfl ?_
            refine .un 24 rfl rfl rfl rfl (by kernel_rfl) rfl ?_
            refine .un 24 rfl rfl rfl rfl (by kernel_rfl) rfl ?_
            refine .unU 27 rfl rfl rfl rfl (by kernel_rfl) rfl ?_
            refine .unU 27 rfl rfl rfl rfl (by kernel_rfl) rfl ?_
            refine .unU 27 rfl rfl rfl rfl (by kernel_rfl) rfl ?_
            refine .unU 27 rfl rfl rfl rfl (by kernel_rfl) rfl ?_
            refine .unU 27 rfl rfl rfl rfl (by kernel_rfl) rfl ?_
            refine .unU 27 rfl rfl rfl rfl (by kernel_rfl) rfl ?_
            refine .unU 27 rfl rfl rfl rfl (by kernel_rfl) rfl ?_
            refine .unU 27 rfl rfl rfl rfl (by kernel_rfl) rfl ?_
            refine .unU 27 rfl rfl rfl rfl (by kernel_rfl) rfl ?_
            refine .unU 27 rfl rfl rfl rfl (by kernel_rfl) rfl ?_
            refine .un 24 rfl rfl rfl rfl (by kernel_rfl) rfl ?_
            refine .cons (fun V Ld a W hLi hpre hR hI KK hK => ?_) trivial
            ·
             have f24 := hI.ef hR hpre 24 rfl rfl rfl (by kernel_rfl)
             exact G_pick rfl (.tmp 101) (.const (.bool true)) (.tmp 115) rfl f24 (show _ = _ from rfl) (hI.u0 hK rfl)
           case refine_3 =>
            intro V Ld w9 hLd hI
            have e9 : V 39 = .bool true := hI.val 39 _ rfl (hLd 39 (by decide))
            have hb9 := hI.st.bl
            clear hI hLd
            simp only [finL, putL, Act.put, Nat.reduceAdd]
            rw [e9]
            clear e9
            generalize V 0 = v0, V 1 = v1
            generalize V 2 = v2, V 3 = v3
            generalize V 4 = v4, V 5 = v5
            generalize V 6 = v6, V 7 = v7
            generalize V 8 = v8, V 9 = v9
            generalize V 10 = v10, V 11 = v11
            generalize V 12 = v12, V 13 = v13
            generalize V 14 = v14, V 15 = v15
            generalize V 16 = v16, V 17 = v17
            generalize V 18 = v18, V 19 = v19
            generalize V 20 = v20, V 21 = v21
            generalize V 22 = v22, V 23 = v23
            generalize V 24 = v24, V 25 = v25
            generalize V 26 = v26, V 27 = v27
            generalize V 28 = v28, V 29 = v29
            generalize V 30 = v30, V 31 = v31
            generalize V 32 = v32, V 33 = v33
            generalize V 34 = v34, V 35 = v35
            generalize V 36 = v36, V 37 = v37, V 38 = v38
            clear V
            simp only [List.setIfInBounds_toArray, List.set_cons_succ, List.set_cons_zero]
            go_wp2_with fail
            go_ret
            exact RetB.int HV.out (HBW.out.trans ((HW0.out.trans (hb9.mono HW0.out.size)).mono HBW.out.size))
          | true =>
           have Q4 := Lib.hid q4
           clear q4
           rcases Nat.eq_zero_or_pos k with hz | hz
           ·
            have HZ := Lib.hid hz
            have Z1 := Lib.hid (show (k : Int) ≤ 0 by omega)
            clear hz
            have HN := Lib.hid (show casK ⟨C, K⟩ (k + 1) = true from by unfold casK; rw [HK.out, cas_y HF.out Q2.out Q3.out Q4.out (prevK_0 HZ.out)]; rfl)
            have J2 := Lib.hid (show (x.o.toList == (kAt K k).o.toList) = true from by rw [hx.o]; exact Q2.out)
            clear hx
            go_wp2_with fail
            refine wp_region_J2 (GI (R := Bl) [Pr.eq (.int .i64 ((f : Int))), Pr.eq (.bool false), Pr.eq (.bool false), Pr.eq (.pointer (some ⟨w.heap.size, 0, none⟩)), Pr.eq (.slice (some ⟨b, off, none⟩) C.length ca), Pr.eq (.int .i64 ((f : Int))), Pr.eq (.pointer (some ⟨b, off + f * 3, none⟩)), Pr.eq (.pointer (some ⟨b, off + f * 3 + 1, none⟩)), Pr.eq (.string (x.o)), Pr.eq (.pointer (some ⟨wr.heap.size, 2, none⟩)), Pr.eq (.string ((kAt K k).o)), Pr.eq (.bool false), Pr.eq (.bool false), Pr.eq (.bool false), Pr.eq (.pointer (some ⟨wr.heap.size, 1, none⟩)), Pr.eq (.string ((kAt K k).r)), Pr.eq (.bool false), Pr.eq (.bool false), Pr.eq (.bool false), Pr.eq (.pointer (some ⟨wr.heap.size, 3, none⟩)), Pr.eq (.int .i64 ((kAt K k).t)), Pr.eq (.bool true), Pr.eq (.bool false), Pr.eq (.bool false), Pr.eq (.bool false), Pr.eq (.int .i64 ((k : Int))), Pr.eq (.bool false), Pr.eq (.bool false), Pr.eq undef, Pr.eq undef, Pr.eq undef, Pr.eq undef, Pr.eq undef, Pr.eq undef, Pr.eq undef, Pr.eq undef, Pr.eq undef, Pr.eq undef, Pr.eq (.bool false), Pr.eq (.bool false)] (GrS w0)) (by kernel_rfl) (by kernel_rfl) (by kernel_rfl) ?_ ?_ ?_
            case refine_1 => exact fun V => GI.start (GrS.start _ _ _)
            case refine_2 =>
             refine .cons (fun V Ld a W hLi hpre hR hI KK hK => ?_) ?_
             ·
              have o7 := (hR.old 7 (by kernel_rfl)).trans (show _ = Value.int .i64 ((f : Int)) from rfl)
              exact G_move rfl (.tmp 7) rfl o7 (hI.u0 hK rfl)
             refine .cons (fun V Ld a W hLi hpre hR hI KK hK => ?_) ?_
             ·
              have f0 := hI.ef hR hpre 0 rfl rfl rfl (by kernel_rfl)
              exact J_binOp rfl .lss _ (.tmp 77) (.const (.int .i64 0)) _ rfl (by rw [f0]; exact bf_lss _ _ _ _ W (by omega)) (hI.u0 hK rfl)
             refine .mf 1 rfl rfl rfl rfl rfl (by kernel_rfl) rfl ?_
             refine .cons (fun V Ld a W hLi hpre hR hI KK hK => ?_) ?_
             ·
              refine G_gw hI hR hpre 2 rfl rfl rfl rfl (by kernel_rfl) ?_
              have o1 := (hR.old 1 (by kernel_rfl)).trans (show _ = Value.pointer (some ⟨w.heap.size, 0, none⟩) from rfl)
              exact J_fieldAddr rfl _ (.tmp 1) 0 rfl (by rw [o1]; go_simp) (hI.u0 hK rfl)
             refine .cons (fun V Ld a W hLi hpre hR hI KK hK => ?_) ?_
             ·
              refine G_gw hI hR hpre 2 rfl rfl rfl rfl (by kernel_rfl) ?_
              have f3 := hI.ef hR hpre 3 rfl rfl rfl (by kernel_rfl)
              have c := (hI.st.bl.cell LD.out).trans D0.out
              exact J_load rfl _ (.tmp 80) rfl (by rw [f3]; go_simp) (hI.u0 hK rfl)
             refine .cons (fun V Ld a W hLi hpre hR hI KK hK => ?_) ?_
             ·
              refine G_gw hI hR hpre 2 rfl rfl rfl rfl (by kernel_rfl) ?_
              have o7 := (hR.old 7 (by kernel_rfl)).trans (show _ = Value.int .i64 ((f : Int)) from rfl)
              exact G_move rfl (.tmp 7) rfl o7 (hI.u0 hK rfl)
             refine .cons (fun V Ld a W hLi hpre hR hI KK hK => ?_) ?_
             ·
              refine G_gw hI hR hpre 2 rfl rfl rfl rfl (by kernel_rfl) ?_
              have f4 := hI.ef hR hpre 4 rfl rfl rfl (by kernel_rfl)
              have f5 := hI.ef hR hpre 5 rfl rfl rfl (by kernel_rfl)
              exact J_indexAddr rfl _ (.tmp 81) (.tmp 82) rfl (by rw [f4, f5]; go_simp) (hI.u0 hK rfl)
             refine .cons (fun V Ld a W hLi hpre hR hI KK hK => ?_) ?_
             ·
              refine G_gw hI hR hpre 2 rfl rfl rfl rfl (by kernel_rfl) ?_
              have f6 := hI.ef hR hpre 6 rfl rfl rfl (by kernel_rfl)
              exact J_fieldAddr rfl _ (.tmp 83) 1 rfl (by rw [f6]; go_simp) (hI.u0 hK rfl)
             refine .cons (fun V Ld a W hLi hpre hR hI KK hK => ?_) ?_
             ·
              refine G_gw hI hR hpre 2 rfl rfl rfl rfl (by kernel_rfl) ?_
              have f7 := hI.ef hR hpre 7 rfl rfl rfl (by kernel_rfl)
              have c := (hI.st.bl.cell LB.out).trans X1.out
              exact J_load rfl _ (.tmp 84) rfl (by rw [f7]; go_simp) (hI.u0 hK rfl)
             refine .cons (fun V Ld a W hLi hpre hR hI KK hK => ?_) ?_
             ·
              refine G_gw hI hR hpre 2 rfl rfl rfl rfl (by kernel_rfl) ?_
              have o6 := (hR.old 6 (by kernel_rfl)).trans (show _ = Value.pointer (some ⟨wr.heap.size, 0, none⟩) from rfl)
              exact J_fieldAddr rfl _ (.tmp 6) 2 rfl (by rw [o6]; go_simp) (hI.u0 hK rfl)
             refine .cons (fun V Ld a W hLi hpre hR hI KK hK => ?_) ?_
             ·
              refine G_gw hI hR hpre 2 rfl rfl rfl rfl (by kernel_rfl) ?_
              have f9 := hI.ef hR hpre 9 rfl rfl rfl (by kernel_rfl)
              have c := (hI.st.bl.cell LV.out).trans VC.out.c2
              exact J_load rfl _ (.tmp 86) rfl (by rw [f9]; go_simp) (hI.u0 hK rfl)
             refine .cons (fun V Ld a W hLi hpre hR hI KK hK => ?_) ?_
             ·
              refine G_gw hI hR hpre 2 rfl rfl rfl rfl (by kernel_rfl) ?_
              have f8 := hI.ef hR hpre 8 rfl rfl rfl (by kernel_rfl)
              have f10 := hI.ef hR hpre 10 rfl rfl rfl (by kernel_rfl)
              exact J_binOp rfl .neq _ (.tmp 85) (.tmp 87) _ rfl (by rw [f8, f10]; exact bf_neS _ _ _ _ W J2.out) (hI.u0 hK rfl)
             refine .cons (fun V Ld a W hLi hpre hR hI KK hK => ?_) ?_
             ·
              have f2 := hI.ef hR hpre 2 rfl rfl rfl (by kernel_rfl)
              have f11 := hI.ef hR hpre 11 rfl rfl rfl (by kernel_rfl)
              exact G_pick rfl (.tmp 79) (.const (.bool true)) (.tmp 88) rfl f2 (show _ = _ from f11) (hI.u0 hK rfl)
             refine .mf 12 rfl rfl rfl rfl rfl (by kernel_rfl) rfl ?_
             refine .cons (fun V Ld a W hLi hpre hR hI KK hK => ?_) ?_
             ·
              refine G_gw hI hR hpre 13 rfl rfl rfl rfl (by kernel_rfl) ?_
              have o6 := (hR.old 6 (by kernel_rfl)).trans (show _ = Value.pointer (some ⟨wr.heap.size, 0, none⟩) from rfl)
              exact J_fieldAddr rfl _ (.tmp 6) 1 rfl (by rw [o6]; go_simp) (hI.u0 hK rfl)
             refine .cons (fun V Ld a W hLi hpre hR hI KK hK => ?_) ?_
             ·
              refine G_gw hI hR hpre 13 rfl rfl rfl rfl (by kernel_rfl) ?_
              have f14 := hI.ef hR hpre 14 rfl rfl rfl (by kernel_rfl)
              have c := (hI.st.bl.cell LV.out).trans VC.out.c1
              exact J_load rfl _ (.tmp 91) rfl (by rw [f14]; go_simp) (hI.u0 hK rfl)
             refine .cons (fun V Ld a W hLi hpre hR hI KK hK => ?_) ?_
             ·
              refine G_gw hI hR hpre 13 rfl rfl rfl rfl (by kernel_rfl) ?_
              have f15 := hI.ef hR hpre 15 rfl rfl rfl (by kernel_rfl)
              refine J_call rfl _ _ _ rfl enter_long (by simp only [List.map_toArray, List.map_cons, List.map_nil, f15]) (long_is (kAt K k).r _ Q3.out W (HSK.out k hlt).1) ?_
              rintro e w' ⟨rfl, rfl⟩
              exact ⟨_, rfl, (hI.u0 hK rfl)⟩
             refine .cons (fun V Ld a W hLi hpre hR hI KK hK => ?_) ?_
             ·
              have f13 := hI.ef hR hpre 13 rfl rfl rfl (by kernel_rfl)
              have f16 := hI.ef hR hpre 16 rfl rfl rfl (by kernel_rfl)
              exact G_pick rfl (.tmp 90) (.const (.bool true)) (.tmp 93) rfl f13 (show _ = _ from f16) (hI.u0 hK rfl)
             refine .mf 17 rfl rfl rfl rfl rfl (by kernel_rfl) rfl ?_
             refine .cons (fun V Ld a W hLi hpre hR hI KK hK => ?_) ?_
             ·
              refine G_gw hI hR hpre 18 rfl rfl rfl rfl (by kernel_rfl) ?_
              have o6 := (hR.old 6 (by kernel_rfl)).trans (show _ = Value.pointer (some ⟨wr.heap.size, 0, none⟩) from rfl)
              exact J_fieldAddr rfl _ (.tmp 6) 3 rfl (by rw [o6]; go_simp) (hI.u0 hK rfl)
             refine .cons (fun V Ld a W hLi hpre hR hI KK hK => ?_) ?_
             ·
              refine G_gw hI hR hpre 18 rfl rfl rfl rfl (by kernel_rfl) ?_
              have f19 := hI.ef hR hpre 19 rfl rfl rfl (by kernel_rfl)
              have c := (hI.st.bl.cell LV.out).trans VC.out.c3
              exact J_load rfl _ (.tmp 96) rfl (by rw [f19]; go_simp) (hI.u0 hK rfl)
             refine .cons (fun V Ld a W hLi hpre hR hI KK hK => ?_) ?_
             ·
              refine G_gw hI hR hpre 18 rfl rfl rfl rfl (by kernel_rfl) ?_
              have f20 := hI.ef hR hpre 20 rfl rfl rfl (by kernel_rfl)
              refine J_call rfl _ _ _ rfl enter_in (by simp only [List.map_toArray, List.map_cons, List.map_nil, f20]; rfl) (in_yes _ _ _ Q4.out W) ?_
              rintro e w' ⟨rfl, rfl⟩
              exact ⟨_, rfl, (hI.u0 hK rfl)⟩
             refine .cons (fun V Ld a W hLi hpre hR hI KK hK => ?_) ?_
             ·
              refine G_gw hI hR hpre 18 rfl rfl rfl rfl (by kernel_rfl) ?_
              have f21 := hI.ef hR hpre 21 rfl rfl rfl (by kernel_rfl)
              exact G_unOp rfl .not _ (.tmp 98) rfl (by rw [f21]; go_simp) (hI.u0 hK rfl)
             refine .cons (fun V Ld a W hLi hpre hR hI KK hK => ?_) ?_
             ·
              have f18 := hI.ef hR hpre 18 rfl rfl rfl (by kernel_rfl)
              have f22 := hI.ef hR hpre 22 rfl rfl rfl (by kernel_rfl)
              exact G_pick rfl (.tmp 95) (.const (.bool true)) (.tmp 99) rfl f18 (show _ = _ from f22) (hI.u0 hK rfl)
             refine .mf 23 rfl rfl rfl rfl rfl (by kernel_rfl) rfl ?_
             refine .cons (fun V Ld a W hLi hpre hR hI KK hK => ?_) ?_
             ·
              refine G_gw hI hR hpre 24 rfl rfl rfl rfl (by kernel_rfl) ?_
              have o5 := (hR.old 5 (by kernel_rfl)).trans (show _ = Value.int .i64 ((k : Int)) from rfl)
              exact G_move rfl (.tmp 5) rfl o5 (hI.u0 hK rfl)
             refine .cons (fun V Ld a W hLi hpre hR hI KK hK => ?_) ?_
             ·
              refine G_gw hI hR hpre 24 rfl rfl rfl rfl (by kernel_rfl) ?_
              have f25 := hI.ef hR hpre 25 rfl rfl rfl (by kernel_rfl)
              exact J_binOp rfl .gtr _ (.tmp 102) (.const (.int .i64 0)) _ rfl (by rw [f25]; exact bf_gtr _ _ _ _ W Z1.out) (hI.u0 hK rfl)
             refine .cons (fun V Ld a W hLi hpre hR hI KK hK => ?_) ?_
             ·
              refine G_gw hI hR hpre 24 rfl rfl rfl rfl (by kernel_rfl) ?_
              have f26 := hI.ef hR hpre 26 rfl rfl rfl (by kernel_rfl)
              exact G_move rfl (.tmp 103) rfl f26 (hI.u0 hK rfl)
             refine .un 27 rfl rfl rfl rfl (by kernel_rfl) rfl ?_
             refine .un 27 rfl rfl rfl rfl (by kernel_rfl) rfl ?_
             refine .un 27 rfl rfl rfl rfl (by kernel_rfl) rfl ?_
             refine .un 27 rfl rfl rfl rfl (by kernel_rfl) rfl ?_
             refine .un 27 rfl rfl rfl rfl (by kernel_rfl) rfl ?_
             refine .un 27 rfl rfl rfl rfl (by kernel_rfl) rfl ?_
             refine .un 27 rfl rfl rfl rfl (by kernel_rfl) rfl ?_
             refine .un 27 rfl rfl rfl rfl (by kernel_rfl) rfl ?_
             refine .un 27 rfl rfl rfl rfl (by kernel_rfl) rfl ?_
             refine .un 27 rfl rfl rfl rfl (by kernel_rfl) rfl ?_
             refine .cons (fun V Ld a W hLi hpre hR hI KK hK => ?_) ?_
             ·
              refine G_gw hI hR hpre 24 rfl rfl rfl rfl (by kernel_rfl) ?_
              have f27 := hI.ef hR hpre 27 rfl rfl rfl (by kernel_rfl)
              exact G_pick rfl (.tmp 104) (.tmp 114) (.const (.bool false)) rfl f27 (show _ = _ from rfl) (hI.u0 hK rfl)
             refine .cons (fun V Ld a W hLi hpre hR hI KK hK => ?_) trivial
             ·
              have f24 := hI.ef hR hpre 24 rfl rfl rfl (by kernel_rfl)
              have f38 := hI.ef hR hpre 38 rfl rfl rfl (by kernel_rfl)
              exact G_pick rfl (.tmp 101) (.const (.bool true)) (.tmp 115) rfl f24 (show _ = _ from f38) (hI.u0 hK rfl)
            case refine_3 =>
             intro V Ld w9 hLd hI
             have e9 : V 39 = .bool false := hI.val 39 _ rfl (hLd 39 (by decide))
             have hb9 := hI.st.bl
             clear hI hLd
             simp only [finL, putL, Act.put, Nat.reduceAdd]
             rw [e9]
             clear e9
             generalize V 0 = v0, V 1 = v1
             generalize V 2 = v2, V 3 = v3
             generalize V 4 = v4, V 5 = v5
             generalize V 6 = v6, V 7 = v7
             generalize V 8 = v8, V 9 = v9
             generalize V 10 = v10, V 11 = v11
             generalize V 12 = v12, V 13 = v13
             generalize V 14 = v14, V 15 = v15
             generalize V 16 = v16, V 17 = v17
             generalize V 18 = v18, V 19 = v19
             generalize V 20 = v20, V 21 = v21
             generalize V 22 = v22, V 23 = v23
             generalize V 24 = v24, V 25 = v25
             generalize V 26 = v26, V 27 = v27
             generalize V 28 = v28, V 29 = v29
             generalize V 30 = v30, V 31 = v31
             generalize V 32 = v32, V 33 = v33
             generalize V 34 = v34, V 35 = v35
             generalize V 36 = v36, V 37 = v37, V 38 = v38
             clear V
             simp only [List.setIfInBounds_toArray, List.set_cons_succ, List.set_cons_zero]
             go_wp2_with fail
             go_roundw
             case rel => exact ⟨k + 1, by omega, by go_num, HN.out, below_trans HBR.out (below_trans HW0.out hb9)⟩
             case measure => simp [intOf]; omega
           ·
            have Z1 := Lib.hid (show (0 : Int) < (k : Int) by omega)
            obtain ⟨m, hm⟩ : ∃ m, k = m + 1 := ⟨k - 1, by omega⟩
            have hmC : m < K.length := by omega
            have hm2 : (0 : Int) ≤ (m : Int) := by omega
            have hm3 : (m : Int) < (K.length : Int) := by omega
            have HM := Lib.hid hm
            clear hm hz
            obtain ⟨kb', ko', e', hkl, -, -, -, -, y3, -⟩ := (HKS.out.below (below_trans HBW.out HW0.out)).case hmC
            obtain ⟨rfl, rfl⟩ : kb = kb' ∧ ko = ko' := by injection e' with e'; injection e' with e1 e2; exact ⟨e1, e2⟩
            have Y3 := Lib.hid y3
            have LK := Lib.hid hkl
            clear e' y3 hkl
            by_cases q5 : (kAt K m).t ≤ (kAt K k).t
            ·
             skip
             have Q5 := Lib.hid q5
             clear q5
             have HN := Lib.hid (show casK ⟨C, K⟩ (k + 1) = true from by unfold casK; rw [HK.out, cas_y HF.out Q2.out Q3.out Q4.out (prevK_y HM.out Q5.out)]; rfl)
             have J2 := Lib.hid (show (x.o.toList == (kAt K k).o.toList) = true from by rw [hx.o]; exact Q2.out)
             have J5 := Lib.hid (show (kAt K m).t ≤ (kAt K k).t from Q5.out)
             clear hx
             go_wp2_with fail
             refine wp_region_J2 (GI (R := Bl) [Pr.eq (.int .i64 ((f : Int))), Pr.eq (.bool false), Pr.eq (.bool false), Pr.eq (.pointer (some ⟨w.heap.size, 0, none⟩)), Pr.eq (.slice (some ⟨b, off, none⟩) C.length ca), Pr.eq (.int .i64 ((f : Int))), Pr.eq (.pointer (some ⟨b, off + f * 3, none⟩)), Pr.eq (.pointer (some ⟨b, off + f * 3 + 1, none⟩)), Pr.eq (.string (x.o)), Pr.eq (.pointer (some ⟨wr.heap.size, 2, none⟩)), Pr.eq (.string ((kAt K k).o)), Pr.eq (.bool false), Pr.eq (.bool false), Pr.eq (.bool false), Pr.eq (.pointer (some ⟨wr.heap.size, 1, none⟩)), Pr.eq (.string ((kAt K k).r)), Pr.eq (.bool false), Pr.eq (.bool false), Pr.eq (.bool false), Pr.eq (.pointer (some ⟨wr.heap.size, 3, none⟩)), Pr.eq (.int .i64 ((kAt K k).t)), Pr.eq (.bool true), Pr.eq (.bool false), Pr.eq (.bool false), Pr.eq (.bool false), Pr.eq (.int .i64 ((k : Int))), Pr.eq (.bool true), Pr.eq (.bool true), Pr.eq (.pointer (some ⟨wr.heap.size, 3, none⟩)), Pr.eq (.int .i64 ((kAt K k).t)), Pr.eq (.pointer (some ⟨w.heap.size, 1, none⟩)), Pr.eq (.slice (some ⟨kb, ko, none⟩) K.length cb), Pr.eq (.int .i64 ((k : Int))), Pr.eq (.int .i64 ((m : Int))), Pr.eq (.pointer (some ⟨kb, ko + m * 5, none⟩)), Pr.eq (.pointer (some ⟨kb, ko + m * 5 + 3, none⟩)), Pr.eq (.int .i64 ((kAt K m).t)), Pr.eq (.bool false), Pr.eq (.bool false), Pr.eq (.bool false)] (GrS w0)) (by kernel_rfl) (by kernel_rfl) (by kernel_rfl) ?_ ?_ ?_
             case refine_1 => exact fun V => GI.start (GrS.start _ _ _)
             case refine_2 =>
              refine .cons (fun V Ld a W hLi hpre hR hI KK hK => ?_) ?_
              ·
               have o7 := (hR.old 7 (by kernel_rfl)).trans (show _ = Value.int .i64 ((f : Int)) from rfl)
               exact G_move rfl (.tmp 7) rfl o7 (hI.u0 hK rfl)
              refine .cons (fun V Ld a W hLi hpre hR hI KK hK => ?_) ?_
              ·
               have f0 := hI.ef hR hpre 0 rfl rfl rfl (by kernel_rfl)
               exact J_binOp rfl .lss _ (.tmp 77) (.const (.int .i64 0)) _ rfl (by rw [f0]; exact bf_lss _ _ _ _ W (by omega)) (hI.u0 hK rfl)
              refine .mf 1 rfl rfl rfl rfl rfl (by kernel_rfl) rfl ?_
              refine .cons (fun V Ld a W hLi hpre hR hI KK hK => ?_) ?_
              ·
               refine G_gw hI hR hpre 2 rfl rfl rfl rfl (by kernel_rfl) ?_
               have o1 := (hR.old 1 (by kernel_rfl)).trans (show _ = Value.pointer (some ⟨w.heap.size, 0, none⟩) from rfl)
               exact J_fieldAddr rfl _ (.tmp 1) 0 rfl (by rw [o1]; go_simp) (hI.u0 hK rfl)
              refine .cons (fun V Ld a W hLi hpre hR hI KK hK => ?_) ?_
              ·
               refine G_gw hI hR hpre 2 rfl rfl rfl rfl (by kernel_rfl) ?_
               have f3 := hI.ef hR hpre 3 rfl rfl rfl (by kernel_rfl)
               have c := (hI.st.bl.cell LD.out).trans D0.out
               exact J_load rfl _ (.tmp 80) rfl (by rw [f3]; go_simp) (hI.u0 hK rfl)
              refine .cons (fun V Ld a W hLi hpre hR hI KK hK => ?_) ?_
              ·
               refine G_gw hI hR hpre 2 rfl rfl rfl rfl (by kernel_rfl) ?_
               have o7 := (hR.old 7 (by kernel_rfl)).trans (show _ = Value.int .i64 ((f : Int)) from rfl)
               exact G_move rfl (.tmp 7) rfl o7 (hI.u0 hK rfl)
              refine .cons (fun V Ld a W hLi hpre hR hI KK hK => ?_) ?_
              ·
               refine G_gw hI hR hpre 2 rfl rfl rfl rfl (by kernel_rfl) ?_
               have f4 := hI.ef hR hpre 4 rfl rfl rfl (by kernel_rfl)
               have f5 := hI.ef hR hpre 5 rfl rfl rfl (by kernel_rfl)
               exact J_indexAddr rfl _ (.tmp 81) (.tmp 82) rfl (by rw [f4, f5]; go_simp) (hI.u0 hK rfl)
              refine .cons (fun V Ld a W hLi hpre hR hI KK hK => ?_) ?_
              ·
               refine G_gw hI hR hpre 2 rfl rfl rfl rfl (by kernel_rfl) ?_
               have f6 := hI.ef hR hpre 6 rfl rfl rfl (by kernel_rfl)
               exact J_fieldAddr rfl _ (.tmp 83) 1 rfl (by rw [f6]; go_simp) (hI.u0 hK rfl)
              refine .cons (fun V Ld a W hLi hpre hR hI KK hK => ?_) ?_
              ·
               refine G_gw hI hR hpre 2 rfl rfl rfl rfl (by kernel_rfl) ?_
               have f7 := hI.ef hR hpre 7 rfl rfl rfl (by kernel_rfl)
               have c := (hI.st.bl.cell LB.out).trans X1.out
               exact J_load rfl _ (.tmp 84) rfl (by rw [f7]; go_simp) (hI.u0 hK rfl)
              refine .cons (fun V Ld a W hLi hpre hR hI KK hK => ?_) ?_
              ·
               refine G_gw hI hR hpre 2 rfl rfl rfl rfl (by kernel_rfl) ?_
               have o6 := (hR.old 6 (by kernel_rfl)).trans (show _ = Value.pointer (some ⟨wr.heap.size, 0, none⟩) from rfl)
               exact J_fieldAddr rfl _ (.tmp 6) 2 rfl (by rw [o6]; go_simp) (hI.u0 hK rfl)
              refine .cons (fun V Ld a W hLi hpre hR hI KK hK => ?_) ?_
              ·
               refine G_gw hI hR hpre 2 rfl rfl rfl rfl (by kernel_rfl) ?_
               have f9 := hI.ef hR hpre 9 rfl rfl rfl (by kernel_rfl)
               have c := (hI.st.bl.cell LV.out).trans VC.out.c2
               exact J_load rfl _ (.tmp 86) rfl (by rw [f9]; go_simp) (hI.u0 hK rfl)
              refine .cons (fun V Ld a W hLi hpre hR hI KK hK => ?_) ?_
              ·
               refine G_gw hI hR hpre 2 rfl rfl rfl rfl (by kernel_rfl) ?_
               have f8 := hI.ef hR hpre 8 rfl rfl rfl (by kernel_rfl)
               have f10 := hI.ef hR hpre 10 rfl rfl rfl (by kernel_rfl)
               exact J_binOp rfl .neq _ (.tmp 85) (.tmp 87) _ rfl (by rw [f8, f10]; exact bf_neS _ _ _ _ W J2.out) (hI.u0 hK rfl)
              refine .cons (fun V Ld a W hLi hpre hR hI KK hK => ?_) ?_
              ·
               have f2 := hI.ef hR hpre 2 rfl rfl rfl (by kernel_rfl)
               have f11 := hI.ef hR hpre 11 rfl rfl rfl (by kernel_rfl)
               exact G_pick rfl (.tmp 79) (.const (.bool true)) (.tmp 88) rfl f2 (show _ = _ from f11) (hI.u0 hK rfl)
              refine .mf 12 rfl rfl rfl rfl rfl (by kernel_rfl) rfl ?_
              refine .cons (fun V Ld a W hLi hpre hR hI KK hK => ?_) ?_
              ·
               refine G_gw hI hR hpre 13 rfl rfl rfl rfl (by kernel_rfl) ?_
               have o6 := (hR.old 6 (by kernel_rfl)).trans (show _ = Value.pointer (some ⟨wr.heap.size, 0, none⟩) from rfl)
               exact J_fieldAddr rfl _ (.tmp 6) 1 rfl (by rw [o6]; go_simp) (hI.u0 hK rfl)
              refine .cons (fun V Ld a W hLi hpre hR hI KK hK => ?_) ?_
              ·
               refine G_gw hI hR hpre 13 rfl rfl rfl rfl (by kernel_rfl) ?_
               have f14 := hI.ef hR hpre 14 rfl rfl rfl (by kernel_rfl)
               have c := (hI.st.bl.cell LV.out).trans VC.out.c1
               exact J_load rfl _ (.tmp 91) rfl (by rw [f14]; go_simp) (hI.u0 hK rfl)
              refine .cons (fun V Ld a W hLi hpre hR hI KK hK => ?_) ?_
              ·
               refine G_gw hI hR hpre 13 rfl rfl rfl rfl (by kernel_rfl) ?_
               have f15 := hI.ef hR hpre 15 rfl rfl rfl (by kernel_rfl)
               refine J_call rfl _ _ _ rfl enter_long (by simp only [List.map_toArray, List.map_cons, List.map_nil, f15]) (long_is (kAt K k).r _ Q3.out W (HSK.out k hlt).1) ?_
               rintro e w' ⟨rfl, rfl⟩
               exact ⟨_, rfl, (hI.u0 hK rfl)⟩
              refine .cons (fun V Ld a W hLi hpre hR hI KK hK => ?_) ?_
              ·
               have f13 := hI.ef hR hpre 13 rfl rfl rfl (by kernel_rfl)
               have f16 := hI.ef hR hpre 16 rfl rfl rfl (by kernel_rfl)
               exact G_pick rfl (.tmp 90) (.const (.bool true)) (.tmp 93) rfl f13 (show _ = _ from f16) (hI.u0 hK rfl)
              refine .mf 17 rfl rfl rfl rfl rfl (by kernel_rfl) rfl ?_
              refine .cons (fun V Ld a W hLi hpre hR hI KK hK => ?_) ?_
              ·
               refine G_gw hI hR hpre 18 rfl rfl rfl rfl (by kernel_rfl) ?_
               have o6 := (hR.old 6 (by kernel_rfl)).trans (show _ = Value.pointer (some ⟨wr.heap.size, 0, none⟩) from rfl)
               exact J_fieldAddr rfl _ (.tmp 6) 3 rfl (by rw [o6]; go_simp) (hI.u0 hK rfl)
              refine .cons (fun V Ld a W hLi hpre hR hI KK hK => ?_) ?_
              ·
               refine G_gw hI hR hpre 18 rfl rfl rfl rfl (by kernel_rfl) ?_
               have f19 := hI.ef hR hpre 19 rfl rfl rfl (by kernel_rfl)
               have c := (hI.st.bl.cell LV.out).trans VC.out.c3
               exact J_load rfl _ (.tmp 96) rfl (by rw [f19]; go_simp) (hI.u0 hK rfl)
              refine .cons (fun V Ld a W hLi hpre hR hI KK hK => ?_) ?_
              ·
               refine G_gw hI hR hpre 18 rfl rfl rfl rfl (by kernel_rfl) ?_
               have f20 := hI.ef hR hpre 20 rfl rfl rfl (by kernel_rfl)
               refine J_call rfl _ _ _ rfl enter_in (by simp only [List.map_toArray, List.map_cons, List.map_nil, f20]; rfl) (in_yes _ _ _ Q4.out W) ?_
               rintro e w' ⟨rfl, rfl⟩
               exact ⟨_, rfl, (hI.u0 hK rfl)⟩
              refine .cons (fun V Ld a W hLi hpre hR hI KK hK => ?_) ?_
              ·
               refine G_gw hI hR hpre 18 rfl rfl rfl rfl (by kernel_rfl) ?_
               have f21 := hI.ef hR hpre 21 rfl rfl rfl (by kernel_rfl)
               exact G_unOp rfl .not _ (.tmp 98) rfl (by rw [f21]; go_simp) (hI.u0 hK rfl)
              refine .cons (fun V Ld a W hLi hpre hR hI KK hK => ?_) ?_
              ·
               have f18 := hI.ef hR hpre 18 rfl rfl rfl (by kernel_rfl)
               have f22 := hI.ef hR hpre 22 rfl rfl rfl (by kernel_rfl)
               exact G_pick rfl (.tmp 95) (.const (.bool true)) (.tmp 99) rfl f18 (show _ = _ from f22) (hI.u0 hK rfl)
              refine .mf 23 rfl rfl rfl rfl rfl (by kernel_rfl) rfl ?_
              refine .cons (fun V Ld a W hLi hpre hR hI KK hK => ?_) ?_
              ·
               refine G_gw hI hR hpre 24 rfl rfl rfl rfl (by kernel_rfl) ?_
               have o5 := (hR.old 5 (by kernel_rfl)).trans (show _ = Value.int .i64 ((k : Int)) from rfl)
               exact G_move rfl (.tmp 5) rfl o5 (hI.u0 hK rfl)
              refine .cons (fun V Ld a W hLi hpre hR hI KK hK => ?_) ?_
              ·
               refine G_gw hI hR hpre 24 rfl rfl rfl rfl (by kernel_rfl) ?_
               have f25 := hI.ef hR hpre 25 rfl rfl rfl (by kernel_rfl)
               exact J_binOp rfl .gtr _ (.tmp 102) (.const (.int .i64 0)) _ rfl (by rw [f25]; exact bt_gtr _ _ _ _ W Z1.out) (hI.u0 hK rfl)
              refine .cons (fun V Ld a W hLi hpre hR hI KK hK => ?_) ?_
              ·
               refine G_gw hI hR hpre 24 rfl rfl rfl rfl (by kernel_rfl) ?_
               have f26 := hI.ef hR hpre 26 rfl rfl rfl (by kernel_rfl)
               exact G_move rfl (.tmp 103) rfl f26 (hI.u0 hK rfl)
              refine .cons (fun V Ld a W hLi hpre hR hI KK hK => ?_) ?_
              ·
               refine G_gw hI hR hpre 27 rfl rfl rfl rfl (by kernel_rfl) ?_
               have o6 := (hR.old 6 (by kernel_rfl)).trans (show _ = Value.pointer (some ⟨wr.heap.size, 0, none⟩) from rfl)
               exact J_fieldAddr rfl _ (.tmp 6) 3 rfl (by rw [o6]; go_simp) (hI.u0 hK rfl)
              refine .cons (fun V Ld a W hLi hpre hR hI KK hK => ?_) ?_
              ·
               refine G_gw hI hR hpre 27 rfl rfl rfl rfl (by kernel_rfl) ?_
               have f28 := hI.ef hR hpre 28 rfl rfl rfl (by kernel_rfl)
               have c := (hI.st.bl.cell LV.out).trans VC.out.c3
               exact J_load rfl _ (.tmp 105) rfl (by rw [f28]; go_simp) (hI.u0 hK rfl)
              refine .cons (fun V Ld a W hLi hpre hR hI KK hK => ?_) ?_
              ·
               refine G_gw hI hR hpre 27 rfl rfl rfl rfl (by kernel_rfl) ?_
               have o1 := (hR.old 1 (by kernel_rfl)).trans (show _ = Value.pointer (some ⟨w.heap.size, 0, none⟩) from rfl)
               exact J_fieldAddr rfl _ (.tmp 1) 1 rfl (by rw [o1]; go_simp) (hI.u0 hK rfl)
              refine .cons (fun V Ld a W hLi hpre hR hI KK hK => ?_) ?_
              ·
               refine G_gw hI hR hpre 27 rfl rfl rfl rfl (by kernel_rfl) ?_
               have f30 := hI.ef hR hpre 30 rfl rfl rfl (by kernel_rfl)
               have c := (hI.st.bl.cell LD.out).trans D1.out
               exact J_load rfl _ (.tmp 107) rfl (by rw [f30]; go_simp) (hI.u0 hK rfl)
              refine .cons (fun V Ld a W hLi hpre hR hI KK hK => ?_) ?_
              ·
               refine G_gw hI hR hpre 27 rfl rfl rfl rfl (by kernel_rfl) ?_
               have o5 := (hR.old 5 (by kernel_rfl)).trans (show _ = Value.int .i64 ((k : Int)) from rfl)
               exact G_move rfl (.tmp 5) rfl o5 (hI.u0 hK rfl)
              refine .cons (fun V Ld a W hLi hpre hR hI KK hK => ?_) ?_
              ·
               refine G_gw hI hR hpre 27 rfl rfl rfl rfl (by kernel_rfl) ?_
               have f32 := hI.ef hR hpre 32 rfl rfl rfl (by kernel_rfl)
               exact J_binOp rfl .sub _ (.tmp 109) (.const (.int .i64 1)) _ rfl (by rw [f32]; exact b_prev _ _ W HM.out (by omega)) (hI.u0 hK rfl)
              refine .cons (fun V Ld a W hLi hpre hR hI KK hK => ?_) ?_
              ·
               refine G_gw hI hR hpre 27 rfl rfl rfl rfl (by kernel_rfl) ?_
               have f31 := hI.ef hR hpre 31 rfl rfl rfl (by kernel_rfl)
               have f33 := hI.ef hR hpre 33 rfl rfl rfl (by kernel_rfl)
               exact J_indexAddr rfl _ (.tmp 108) (.tmp 110) rfl (by rw [f31, f33]; go_simp) (hI.u0 hK rfl)
              refine .cons (fun V Ld a W hLi hpre hR hI KK hK => ?_) ?_
              ·
               refine G_gw hI hR hpre 27 rfl rfl rfl rfl (by kernel_rfl) ?_
               have f34 := hI.ef hR hpre 34 rfl rfl rfl (by kernel_rfl)
               exact J_fieldAddr rfl _ (.tmp 111) 3 rfl (by rw [f34]; go_simp) (hI.u0 hK rfl)
              refine .cons (fun V Ld a W hLi hpre hR hI KK hK => ?_) ?_
              ·
               refine G_gw hI hR hpre 27 rfl rfl rfl rfl (by kernel_rfl) ?_
               have f35 := hI.ef hR hpre 35 rfl rfl rfl (by kernel_rfl)
               have c := (hI.st.bl.cell LK.out).trans Y3.out
               exact J_load rfl _ (.tmp 112) rfl (by rw [f35]; go_simp) (hI.u0 hK rfl)
              refine .cons (fun V Ld a W hLi hpre hR hI KK hK => ?_) ?_
              ·
               refine G_gw hI hR hpre 27 rfl rfl rfl rfl (by kernel_rfl) ?_
               have f29 := hI.ef hR hpre 29 rfl rfl rfl (by kernel_rfl)
               have f36 := hI.ef hR hpre 36 rfl rfl rfl (by kernel_rfl)
               exact J_binOp rfl .lss _ (.tmp 106) (.tmp 113) _ rfl (by rw [f29, f36]; exact bf_lss _ _ _ _ W J5.out) (hI.u0 hK rfl)
              refine .cons (fun V Ld a W hLi hpre hR hI KK hK => ?_) ?_
              ·
               refine G_gw hI hR hpre 24 rfl rfl rfl rfl (by kernel_rfl) ?_
               have f27 := hI.ef hR hpre 27 rfl rfl rfl (by kernel_rfl)
               have f37 := hI.ef hR hpre 37 rfl rfl rfl (by kernel_rfl)
               exact G_pick rfl (.tmp 104) (.tmp 114) (.const (.bool false)) rfl f27 (show _ = _ from f37) (hI.u0 hK rfl)
              refine .cons (fun V Ld a W hLi hpre hR hI KK hK => ?_) trivial
              ·
               have f24 := hI.ef hR hpre 24 rfl rfl rfl (by kernel_rfl)
               have f38 := hI.ef hR hpre 38 rfl rfl rfl (by kernel_rfl)
               exact G_pick rfl (.tmp 101) (.const (.bool true)) (.tmp 115) rfl f24 (show _ = _ from f38) (hI.u0 hK rfl)
             case refine_3 =>
              intro V Ld w9 hLd hI
              have e9 : V 39 = .bool false := hI.val 39 _ rfl (hLd 39 (by decide))
              have hb9 := hI.st.bl
              clear hI hLd
              simp only [finL, putL, Act.put, Nat.reduceAdd]
              rw [e9]
              clear e9
              generalize V 0 = v0, V 1 = v1
              generalize V 2 = v2, V 3 = v3
              generalize V 4 = v4, V 5 = v5
              generalize V 6 = v6, V 7 = v7
              generalize V 8 = v8, V 9 = v9
              generalize V 10 = v10, V 11 = v11
              generalize V 12 = v12, V 13 = v13
              generalize V 14 = v14, V 15 = v15
              generalize V 16 = v16, V 17 = v17
              generalize V 18 = v18, V 19 = v19
              generalize V 20 = v20, V 21 = v21
              generalize V 22 = v22, V 23 = v23
              generalize V 24 = v24, V 25 = v25
              generalize V 26 = v26, V 27 = v27
              generalize V 28 = v28, V 29 = v29
              generalize V 30 = v30, V 31 = v31
              generalize V 32 = v32, V 33 = v33
              generalize V 34 = v34, V 35 = v35
              generalize V 36 = v36, V 37 = v37, V 38 = v38
              clear V
              simp only [List.setIfInBounds_toArray, List.set_cons_succ, List.set_cons_zero]
              go_wp2_with fail
              go_roundw
              case rel => exact ⟨k + 1, by omega, by go_num, HN.out, below_trans HBR.out (below_trans HW0.out hb9)⟩
              case measure => simp [intOf]; omega
            ·
             skip
             have Q5 := Lib.hid q5
             clear q5
             have HV := Lib.hid (HBADK.out _ hlt (cas_5 (prevK_n HM.out Q5.out)))
             have J2 := Lib.hid (show (x.o.toList == (kAt K k).o.toList) = true from by rw [hx.o]; exact Q2.out)
             have J5 := Lib.hid (show (kAt K k).t < (kAt K m).t from by have := Q5.out; omega)
             clear hx
             go_wp2_with fail
             refine wp_region_J2 (GI (R := Bl) [Pr.eq (.int .i64 ((f : Int))), Pr.eq (.bool false), Pr.eq (.bool false), Pr.eq (.pointer (some ⟨w.heap.size, 0, none⟩)), Pr.eq (.slice (some ⟨b, off, none⟩) C.length ca), Pr.eq (.int .i64 ((f : Int))), Pr.eq (.pointer (some ⟨b, off + f * 3, none⟩)), Pr.eq (.pointer (some ⟨b, off + f * 3 + 1, none⟩)), Pr.eq (.string (x.o)), Pr.eq (.pointer (some ⟨wr.heap.size, 2, none⟩)), Pr.eq (.string ((kAt K k).o)), Pr.eq (.bool false), Pr.eq (.bool false), Pr.eq (.bool false), Pr.eq (.pointer (some ⟨wr.heap.size, 1, none⟩)), Pr.eq (.string ((kAt K k).r)), Pr.eq (.bool false), Pr.eq (.bool false), Pr.eq (.bool false), Pr.eq (.pointer (some ⟨wr.heap.size, 3, none⟩)), Pr.eq (.int .i64 ((kAt K k).t)), Pr.eq (.bool true), Pr.eq (.bool false), Pr.eq (.bool false), Pr.eq (.bool false), Pr.eq (.int .i64 ((k : Int))), Pr.eq (.bool true), Pr.eq (.bool true), Pr.eq (.pointer (some ⟨wr.heap.size, 3, none⟩)), Pr.eq (.int .i64 ((kAt K k).t)), Pr.eq (.pointer (some ⟨w.heap.size, 1, none⟩)), Pr.eq (.slice (some ⟨kb, ko, none⟩) K.length cb), Pr.eq (.int .i64 ((k : Int))), Pr.eq (.int .i64 ((m : Int))), Pr.eq (.pointer (some ⟨kb, ko + m * 5, none⟩)), Pr.eq (.pointer (some ⟨kb, ko + m * 5 + 3, none⟩)), Pr.eq (.int .i64 ((kAt K m).t)), Pr.eq (.bool true), Pr.eq (.bool true), Pr.eq (.bool true)] (GrS w0)) (by kernel_rfl) (by kernel_rfl) (by kernel_rfl) ?_ ?_ ?_
             case refine_1 => exact fun V => GI.start (GrS.start _ _ _)
             case refine_2 =>
              refine .cons (fun V Ld a W hLi hpre hR hI KK hK => ?_) ?_
              ·
               have o7 := (hR.old 7 (by kernel_rfl)).trans (show _ = Value.int .i64 ((f : Int)) from rfl)
               exact G_move rfl (.tmp 7) rfl o7 (hI.u0 hK rfl)
              refine .cons (fun V Ld a W hLi hpre hR hI KK hK => ?_) ?_
              ·
               have f0 := hI.ef hR hpre 0 rfl rfl rfl (by kernel_rfl)
               exact J_binOp rfl .lss _ (.tmp 77) (.const (.int .i64 0)) _ rfl (by rw [f0]; exact bf_lss _ _ _ _ W (by omega)) (hI.u0 hK rfl)
              refine .mf 1 rfl rfl rfl rfl rfl (by kernel_rfl) rfl ?_
              refine .cons (fun V Ld a W hLi hpre hR hI KK hK => ?_) ?_
              ·
               refine G_gw hI hR hpre 2 rfl rfl rfl rfl (by kernel_rfl) ?_
               have o1 := (hR.old 1 (by kernel_rfl)).trans (show _ = Value.pointer (some ⟨w.heap.size, 0, none⟩) from rfl)
               exact J_fieldAddr rfl _ (.tmp 1) 0 rfl (by rw [o1]; go_simp) (hI.u0 hK rfl)
              refine .cons (fun V Ld a W hLi hpre hR hI KK hK => ?_) ?_
              ·
               refine G_gw hI hR hpre 2 rfl rfl rfl rfl (by kernel_rfl) ?_
               have f3 := hI.ef hR hpre 3 rfl rfl rfl (by kernel_rfl)
               have c := (hI.st.bl.cell LD.out).trans D0.out
               exact J_load rfl _ (.tmp 80) rfl (by rw [f3]; go_simp) (hI.u0 hK rfl)
              refine .cons (fun V Ld a W hLi hpre hR hI KK hK => ?_) ?_
              ·
               refine G_gw hI hR hpre 2 rfl rfl rfl rfl (by kernel_rfl) ?_
               have o7 := (hR.old 7 (by kernel_rfl)).trans (show _ = Value.int .i64 ((f : Int)) from rfl)
               exact G_move rfl (.tmp 7) rfl o7 (hI.u0 hK rfl)
              refine .cons (fun V Ld a W hLi hpre hR hI KK hK => ?_) ?_
              ·
               refine G_gw hI hR hpre 2 rfl rfl rfl rfl (by kernel_rfl) ?_
               have f4 := hI.ef hR hpre 4 rfl rfl rfl (by kernel_rfl)
               have f5 := hI.ef hR hpre 5 rfl rfl rfl (by kernel_rfl)
               exact J_indexAddr rfl _ (.tmp 81) (.tmp 82) rfl (by rw [f4, f5]; go_simp) (hI.u0 hK rfl)
              refine .cons (fun V Ld a W hLi hpre hR hI KK hK => ?_) ?_
              ·
               refine G_gw hI hR hpre 2 rfl rfl rfl rfl (by kernel_rfl) ?_
               have f6 := hI.ef hR hpre 6 rfl rfl rfl (by kernel_rfl)
               exact J_fieldAddr rfl _ (.tmp 83) 1 rfl (by rw [f6]; go_simp) (hI.u0 hK rfl)
              refine .cons (fun V Ld a W hLi hpre hR hI KK hK => ?_) ?_
              ·
               refine G_gw hI hR hpre 2 rfl rfl rfl rfl (by kernel_rfl) ?_
               have f7 := hI.ef hR hpre 7 rfl rfl rfl (by kernel_rfl)
               have c := (hI.st.bl.cell LB.out).trans X1.out
               exact J_load rfl _ (.tmp 84) rfl (by rw [f7]; go_simp) (hI.u0 hK rfl)
              refine .cons (fun V Ld a W hLi hpre hR hI KK hK => ?_) ?_
              ·
               refine G_gw hI hR hpre 2 rfl rfl rfl rfl (by kernel_rfl) ?_
               have o6 := (hR.old 6 (by kernel_rfl)).trans (show _ = Value.pointer (some ⟨wr.heap.size, 0, none⟩) from rfl)
               exact J_fieldAddr rfl _ (.tmp 6) 2 rfl (by rw [o6]; go_simp) (hI.u0 hK rfl)
              refine .cons (fun V Ld a W hLi hpre hR hI KK hK => ?_) ?_
              ·
               refine G_gw hI hR hpre 2 rfl rfl rfl rfl (by kernel_rfl) ?_
               have f9 := hI.ef hR hpre 9 rfl rfl rfl (by kernel_rfl)
               have c := (hI.st.bl.cell LV.out).trans VC.out.c2
               exact J_load rfl _ (.tmp 86) rfl (by rw [f9]; go_simp) (hI.u0 hK rfl)
              refine .cons (fun V Ld a W hLi hpre hR hI KK hK => ?_) ?_
              ·
               refine G_gw hI hR hpre 2 rfl rfl rfl rfl (by kernel_rfl) ?_
               have f8 := hI.ef hR hpre 8 rfl rfl rfl (by kernel_rfl)
               have f10 := hI.ef hR hpre 10 rfl rfl rfl (by kernel_rfl)
               exact J_binOp rfl .neq _ (.tmp 85) (.tmp 87) _ rfl (by rw [f8, f10]; exact bf_neS _ _ _ _ W J2.out) (hI.u0 hK rfl)
              refine .cons (fun V Ld a W hLi hpre hR hI KK hK => ?_) ?_
              ·
               have f2 := hI.ef hR hpre 2 rfl rfl rfl (by kernel_rfl)
               have f11 := hI.ef hR hpre 11 rfl rfl rfl (by kernel_rfl)
               exact G_pick rfl (.tmp 79) (.const (.bool true)) (.tmp 88) rfl f2 (show _ = _ from f11) (hI.u0 hK rfl)
              refine .mf 12 rfl rfl rfl rfl rfl (by kernel_rfl) rfl ?_
              refine .cons (fun V Ld a W hLi hpre hR hI KK hK => ?_) ?_
              ·
               refine G_gw hI hR hpre 13 rfl rfl rfl rfl (by kernel_rfl) ?_
               have o6 := (hR.old 6 (by kernel_rfl)).trans (show _ = Value.pointer (some ⟨wr.heap.size, 0, none⟩) from rfl)
               exact J_fieldAddr rfl _ (.tmp 6) 1 rfl (by rw [o6]; go_simp) (hI.u0 hK rfl)
              refine .cons (fun V Ld a W hLi hpre hR hI KK hK => ?_) ?_
              ·
               refine G_gw hI hR hpre 13 rfl rfl rfl rfl (by kernel_rfl) ?_
               have f14 := hI.ef hR hpre 14 rfl rfl rfl (by kernel_rfl)
               have c := (hI.st.bl.cell LV.out).trans VC.out.c1
               exact J_load rfl _ (.tmp 91) rfl (by rw [f14]; go_simp) (hI.u0 hK rfl)
              refine .cons (fun V Ld a W hLi hpre hR hI KK hK => ?_) ?_
              ·
               refine G_gw hI hR hpre 13 rfl rfl rfl rfl (by kernel_rfl) ?_
               have f15 := hI.ef hR hpre 15 rfl rfl rfl (by kernel_rfl)
               refine J_call rfl _ _ _ rfl enter_long (by simp only [List.map_toArray, List.map_cons, List.map_nil, f15]) (long_is (kAt K k).r _ Q3.out W (HSK.out k hlt).1) ?_
               rintro e w' ⟨rfl, rfl⟩
               exact ⟨_, rfl, (hI.u0 hK rfl)⟩
              refine .cons (fun V Ld a W hLi hpre hR hI KK hK => ?_) ?_
              ·
               have f13 := hI.ef hR hpre 13 rfl rfl rfl (by kernel_rfl)
               have f16 := hI.ef hR hpre 16 rfl rfl rfl (by kernel_rfl)
               exact G_pick rfl (.tmp 90) (.const (.bool true)) (.tmp 93) rfl f13 (show _ = _ from f16) (hI.u0 hK rfl)
              refine .mf 17 rfl rfl rfl rfl rfl (by kernel_rfl) rfl ?_
              refine .cons (fun V Ld a W hLi hpre hR hI KK hK => ?_) ?_
              ·
               refine G_gw hI hR hpre 18 rfl rfl rfl rfl (by kernel_rfl) ?_
               have o6 := (hR.old 6 (by kernel_rfl)).trans (show _ = Value.pointer (some ⟨wr.heap.size, 0, none⟩) from rfl)
               exact J_fieldAddr rfl _ (.tmp 6) 3 rfl (by rw [o6]; go_simp) (hI.u0 hK rfl)
              refine .cons (fun V Ld a W hLi hpre hR hI KK hK => ?_) ?_
              ·
               refine G_gw hI hR hpre 18 rfl rfl rfl rfl (by kernel_rfl) ?_
               have f19 := hI.ef hR hpre 19 rfl rfl rfl (by kernel_rfl)
               have c := (hI.st.bl.cell LV.out).trans VC.out.c3
               exact J_load rfl _ (.tmp 96) rfl (by rw [f19]; go_simp) (hI.u0 hK rfl)
              refine .cons (fun V Ld a W hLi hpre hR hI KK hK => ?_) ?_
              ·
               refine G_gw hI hR hpre 18 rfl rfl rfl rfl (by kernel_rfl) ?_
               have f20 := hI.ef hR hpre 20 rfl rfl rfl (by kernel_rfl)
               refine J_call rfl _ _ _ rfl enter_in (by simp only [List.map_toArray, List.map_cons, List.map_nil, f20]; rfl) (in_yes _ _ _ Q4.out W) ?_
               rintro e w' ⟨rfl, rfl⟩
               exact ⟨_, rfl, (hI.u0 hK rfl)⟩
              refine .cons (fun V Ld a W hLi hpre hR hI KK hK => ?_) ?_
              ·
               refine G_gw hI hR hpre 18 rfl rfl rfl rfl (by kernel_rfl) ?_
               have f21 := hI.ef hR hpre 21 rfl rfl rfl (by kernel_rfl)
               exact G_unOp rfl .not _ (.tmp 98) rfl (by rw [f21]; go_simp) (hI.u0 hK rfl)
              refine .cons (fun V Ld a W hLi hpre hR hI KK hK => ?_) ?_
              ·
               have f18 := hI.ef hR hpre 18 rfl rfl rfl (by kernel_rfl)
               have f22 := hI.ef hR hpre 22 rfl rfl rfl (by kernel_rfl)
               exact G_pick rfl (.tmp 95) (.const (.bool true)) (.tmp 99) rfl f18 (show _ = _ from f22) (hI.u0 hK rfl)
              refine .mf 23 rfl rfl rfl rfl rfl (by kernel_rfl) rfl ?_
              refine .cons (fun V Ld a W hLi hpre hR hI KK hK => ?_) ?_
              ·
               refine G_gw hI hR hpre 24 rfl rfl rfl rfl (by kernel_rfl) ?_
               have o5 := (hR.old 5 (by kernel_rfl)).trans (show _ = Value.int .i64 ((k : Int)) from rfl)
               exact G_move rfl (.tmp 5) rfl o5 (hI.u0 hK rfl)
              refine .cons (fun V Ld a W hLi hpre hR hI KK hK => ?_) ?_
              ·
               refine G_gw hI hR hpre 24 rfl rfl rfl rfl (by kernel_rfl) ?_
               have f25 := hI.ef hR hpre 25 rfl rfl rfl (by kernel_rfl)
               exact J_binOp rfl .gtr _ (.tmp 102) (.const (.int .i64 0)) _ rfl (by rw [f25]; exact bt_gtr _ _ _ _ W Z1.out) (hI.u0 hK rfl)
              refine .cons (fun V Ld a W hLi hpre hR hI KK hK => ?_) ?_
              ·
               refine G_gw hI hR hpre 24 rfl rfl rfl rfl (by kernel_rfl) ?_
               have f26 := hI.ef hR hpre 26 rfl rfl rfl (by kernel_rfl)
               exact G_move rfl (.tmp 103) rfl f26 (hI.u0 hK rfl)
              refine .cons (fun V Ld a W hLi hpre hR hI KK hK => ?_) ?_
              ·
               refine G_gw hI hR hpre 27 rfl rfl rfl rfl (by kernel_rfl) ?_
               have o6 := (hR.old 6 (by kernel_rfl)).trans (show _ = Value.pointer (some ⟨wr.heap.size, 0, none⟩) from rfl)
               exact J_fieldAddr rfl _ (.tmp 6) 3 rfl (by rw [o6]; go_simp) (hI.u0 hK rfl)
              refine .cons (fun V Ld a W hLi hpre hR hI KK hK => ?_) ?_
              ·
               refine G_gw hI hR hpre 27 rfl rfl rfl rfl (by kernel_rfl) ?_
               have f28 := hI.ef hR hpre 28 rfl rfl rfl (by kernel_rfl)
               have c := (hI.st.bl.cell LV.out).trans VC.out.c3
               exact J_load rfl _ (.tmp 105) rfl (by rw [f28]; go_simp) (hI.u0 hK rfl)
              refine .cons (fun V Ld a W hLi hpre hR hI KK hK => ?_) ?_
              ·
               refine G_gw hI hR hpre 27 rfl rfl rfl rfl (by kernel_rfl) ?_
               have o1 := (hR.old 1 (by kernel_rfl)).trans (show _ = Value.pointer (some ⟨w.heap.size, 0, none⟩) from rfl)
               exact J_fieldAddr rfl _ (.tmp 1) 1 rfl (by rw [o1]; go_simp) (hI.u0 hK rfl)
              refine .cons (fun V Ld a W hLi hpre hR hI KK hK => ?_) ?_
              ·
               refine G_gw hI hR hpre 27 rfl rfl rfl rfl (by kernel_rfl) ?_
               have f30 := hI.ef hR hpre 30 rfl rfl rfl (by kernel_rfl)
               have c := (hI.st.bl.cell LD.out).trans D1.out
               exact J_load rfl _ (.tmp 107) rfl (by rw [f30]; go_simp) (hI.u0 hK rfl)
              refine .cons (fun V Ld a W hLi hpre hR hI KK hK => ?_) ?_
              ·
               refine G_gw hI hR hpre 27 rfl rfl rfl rfl (by kernel_rfl) ?_
               have o5 := (hR.old 5 (by kernel_rfl)).trans (show _ = Value.int .i64 ((k : Int)) from rfl)
               exact G_move rfl (.tmp 5) rfl o5 (hI.u0 hK rfl)
              refine .cons (fun V Ld a W hLi hpre hR hI KK hK => ?_) ?_
              ·
               refine G_gw hI hR hpre 27 rfl rfl rfl rfl (by kernel_rfl) ?_
               have f32 := hI.ef hR hpre 32 rfl rfl rfl (by kernel_rfl)
               exact J_binOp rfl .sub _ (.tmp 109) (.const (.int .i64 1)) _ rfl (by rw [f32]; exact b_prev _ _ W HM.out (by omega)) (hI.u0 hK rfl)
              refine .cons (fun V Ld a W hLi hpre hR hI KK hK => ?_) ?_
              ·
               refine G_gw hI hR hpre 27 rfl rfl rfl rfl (by kernel_rfl) ?_
               have f31 := hI.ef hR hpre 31 rfl rfl rfl (by kernel_rfl)
               have f33 := hI.ef hR hpre 33 rfl rfl rfl (by kernel_rfl)
               exact J_indexAddr rfl _ (.tmp 108) (.tmp 110) rfl (by rw [f31, f33]; go_simp) (hI.u0 hK rfl)
              refine .cons (fun V Ld a W hLi hpre hR hI KK hK => ?_) ?_
              ·
               refine G_gw hI hR hpre 27 rfl rfl rfl rfl (by kernel_rfl) ?_
               have f34 := hI.ef hR hpre 34 rfl rfl rfl (by kernel_rfl)
               exact J_fieldAddr rfl _ (.tmp 111) 3 rfl (by rw [f34]; go_simp) (hI.u0 hK rfl)
              refine .cons (fun V Ld a W hLi hpre hR hI KK hK => ?_) ?_
              ·
               refine G_gw hI hR hpre 27 rfl rfl rfl rfl (by kernel_rfl) ?_
               have f35 := hI.ef hR hpre 35 rfl rfl rfl (by kernel_rfl)
               have c := (hI.st.bl.cell LK.out).trans Y3.out
               exact J_load rfl _ (.tmp 112) rfl (by rw [f35]; go_simp) (hI.u0 hK rfl)
              refine .cons (fun V Ld a W hLi hpre hR hI KK hK => ?_) ?_
              ·
               refine G_gw hI hR hpre 27 rfl rfl rfl rfl (by kernel_rfl) ?_
               have f29 := hI.ef hR hpre 29 rfl rfl rfl (by kernel_rfl)
               have f36 := hI.ef hR hpre 36 rfl rfl rfl (by kernel_rfl)
               exact J_binOp rfl .lss _ (.tmp 106) (.tmp 113) _ rfl (by rw [f29, f36]; exact bt_lss _ _ _ _ W J5.out) (hI.u0 hK rfl)
              refine .cons (fun V Ld a W hLi hpre hR hI KK hK => ?_) ?_
              ·
               refine G_gw hI hR hpre 24 rfl rfl rfl rfl (by kernel_rfl) ?_
               have f27 := hI.ef hR hpre 27 rfl rfl rfl (by kernel_rfl)
               have f37 := hI.ef hR hpre 37 rfl rfl rfl (by kernel_rfl)
               exact G_pick rfl (.tmp 104) (.tmp 114) (.const (.bool false)) rfl f27 (show _ = _ from f37) (hI.u0 hK rfl)
              refine .cons (fun V Ld a W hLi hpre hR hI KK hK => ?_) trivial
              ·
               have f24 := hI.ef hR hpre 24 rfl rfl rfl (by kernel_rfl)
               have f38 := hI.ef hR hpre 38 rfl rfl rfl (by kernel_rfl)
               exact G_pick rfl (.tmp 101) (.const (.bool true)) (.tmp 115) rfl f24 (show _ = _ from f38) (hI.u0 hK rfl)
             case refine_3 =>
              intro V Ld w9 hLd hI
              have e9 : V 39 = .bool true := hI.val 39 _ rfl (hLd 39 (by decide))
              have hb9 := hI.st.bl
              clear hI hLd
              simp only [finL, putL, Act.put, Nat.reduceAdd]
              rw [e9]
              clear e9
              generalize V 0 = v0, V 1 = v1
              generalize V 2 = v2, V 3 = v3
              generalize V 4 = v4, V 5 = v5
              generalize V 6 = v6, V 7 = v7
              generalize V 8 = v8, V 9 = v9
              generalize V 10 = v10, V 11 = v11
              generalize V 12 = v12, V 13 = v13
              generalize V 14 = v14, V 15 = v15
              generalize V 16 = v16, V 17 = v17
              generalize V 18 = v18, V 19 = v19
              generalize V 20 = v20, V 21 = v21
              generalize V 22 = v22, V 23 = v23
              generalize V 24 = v24, V 25 = v25
              generalize V 26 = v26, V 27 = v27
              generalize V 28 = v28, V 29 = v29
              generalize V 30 = v30, V 31 = v31
              generalize V 32 = v32, V 33 = v33
              generalize V 34 = v34, V 35 = v35
              generalize V 36 = v36, V 37 = v37, V 38 = v38
              clear V
              simp only [List.setIfInBounds_toArray, List.set_cons_succ, List.set_cons_zero]
              go_wp2_with fail
              go_ret
              exact RetB.int HV.out (HBW.out.trans ((HW0.out.trans (hb9.mono HW0.out.size)).mono HBW.out.size))
      ·
       obtain rfl : K.length = k := by omega
       have hkl : ¬ (K.length : Int) < (K.length : Int) := by omega
       go_wp2_with fail
       go_ret
       exact RetB.int (HOK.out g1 g2 HCK.out HK.out) HBW.out
  ·
   have HV := Lib.hid (chk_lk (D := ⟨C, K⟩) (show 256 < K.length by omega))
   have g1' : ¬ (32 : Int) < (C.length : Int) := by omega
   have g2' : (256 : Int) < (K.length : Int) := by omega
   go_enter Try.func18, Try.ntmps18
   go_wp2_with fail
   go_ret
   exact RetB.int HV.out (below_alloc _ _)
 ·
  have HV := Lib.hid (chk_lc (D := ⟨C, K⟩) (show 32 < C.length by omega))
  have g1' : (32 : Int) < (C.length : Int) := by omega
  go_enter Try.func18, Try.ntmps18
  go_wp2_with fail
  go_ret
  exact RetB.int HV.out (below_alloc _ _)
end Go.Proofs.Ytjckpammcgeloaa
