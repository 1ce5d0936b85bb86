/-
  Desks: whom the document chooses, and that the program chooses the same one.
  Desks: what Leave answers.
  Desks: what keeps a desk valid.
  Desks: a case is seen (the walk).
  Desks: a region that draws its order, calls a function that returns a desk, and puts the desk into a variable that it makes.
  Conditions: those that each theorem names.
-/
import Derived.Test.YtjckpammcgeloaaM6
set_option linter.unusedVariables false
set_option linter.unusedSimpArgs false
namespace Go.Proofs.Ytjckpammcgeloaa
open Go.RowKit

theorem cousK_all {C : List CouD} : ∀ n, cousK C n = true → ∀ k, k < n → couOK C k = true
  | 0, _, k, hk => absurd hk (by omega)
  | n + 1, h, k, hk => by
    unfold cousK at h
    rw [Bool.and_eq_true] at h
    by_cases e : k = n
    · subst e; exact h.2
    · exact cousK_all n h.1 k (by omega)
theorem casK_all {D : DeskD} : ∀ n, casK D n = true → ∀ k, k < n → casOK D k = true
  | 0, _, k, hk => absurd hk (by omega)
  | n + 1, h, k, hk => by
    unfold casK at h
    rw [Bool.and_eq_true] at h
    by_cases e : k = n
    · subst e; exact h.2
    · exact casK_all n h.1 k (by omega)
theorem cousK_mk {C : List CouD} : ∀ n, (∀ k, k < n → couOK C k = true) → cousK C n = true
  | 0, _ => rfl
  | n + 1, h => by unfold cousK; rw [cousK_mk n (fun k hk => h k (by omega)), h n (by omega)]; rfl
theorem casK_mk {D : DeskD} : ∀ n, (∀ k, k < n → casOK D k = true) → casK D n = true
  | 0, _ => rfl
  | n + 1, h => by unfold casK; rw [casK_mk n (fun k hk => h k (by omega)), h n (by omega)]; rfl
/-- What Check says. -/
structure ChkY (D : DeskD) : Prop where
  lc : D.cs.length ≤ 32
  lk : D.ks.length ≤ 256
  cou : ∀ k, k < D.cs.length → couOK D.cs k = true
  cas : ∀ k, k < D.ks.length → casOK D k = true
theorem chk_y {D : DeskD} : chkB D = true ↔ ChkY D := by
  unfold chkB
  simp only [Bool.and_eq_true, decide_eq_true_eq]
  constructor
  · intro ⟨⟨h1, h2⟩, h3, h4⟩
    exact ⟨h2, h3, cousK_all _ h1, casK_all _ h4⟩
  · intro h
    exact ⟨⟨cousK_mk _ h.cou, h.lc⟩, h.lk, casK_mk _ h.cas⟩
structure CouY (C : List CouD) (k : Nat) : Prop where
  id : 1 ≤ (cAt C k).id ∧ (cAt C k).id ≤ 1048576
  prev : k = 0 ∨ (cAt C (k - 1)).id < (cAt C k).id
  role : 1 ≤ ((cAt C k).o.size : Int) ∧ ((cAt C k).o.size : Int) ≤ 32
  away : (cAt C k).away.length ≤ 256
  long : (cAt C k).away.any lngB = false
theorem cou_of {C : List CouD} {k : Nat} : couOK C k = true ↔ CouY C k := by
  unfold couOK prevB inI
  simp only [Bool.and_eq_true, Bool.or_eq_true, decide_eq_true_eq, Bool.not_eq_true']
  constructor
  · intro ⟨h1, h2, h3, h4, h5⟩; exact ⟨h1, h2, h3, h4, h5⟩
  · intro h; exact ⟨h.id, h.prev, h.role, h.away, h.long⟩
structure CasY (D : DeskD) (k : Nat) : Prop where
  fnd : 0 ≤ fndC D.cs (kAt D.ks k).c
  role : (cAt D.cs (fndC D.cs (kAt D.ks k).c).toNat).o = (kAt D.ks k).o
  long : lngB (kAt D.ks k).r = false
  time : 0 ≤ (kAt D.ks k).t ∧ (kAt D.ks k).t ≤ 1099511627776
  prev : k = 0 ∨ (kAt D.ks (k - 1)).t ≤ (kAt D.ks k).t
theorem cas_of {D : DeskD} {k : Nat} : casOK D k = true ↔ CasY D k := by
  unfold casOK prevK inI
  simp only [Bool.and_eq_true, Bool.or_eq_true, decide_eq_true_eq, Bool.not_eq_true', eqS_iff]
  constructor
  · intro ⟨h1, h2, h3, h4, h5⟩; exact ⟨h1, h2, h3, h4, h5⟩
  · intro h; exact ⟨h.fnd, h.role, h.long, h.time, h.prev⟩
/-- The counsellors ascend. -/
theorem ids_up {C : List CouD} (h : ∀ k, k < C.length → CouY C k) : ∀ j i, i < j → j < C.length → (cAt C i).id < (cAt C j).id
  | 0, i, hi, _ => absurd hi (by omega)
  | j + 1, i, hi, hj => by
    have h1 := (h (j + 1) hj).prev
    rw [Nat.add_sub_cancel] at h1
    have h2 : (cAt C j).id < (cAt C (j + 1)).id := h1.resolve_left (by omega)
    by_cases e : i = j
    · subst e; exact h2
    · have := ids_up h j i (by omega) (by omega); omega
theorem ids_eq {C : List CouD} (h : ∀ k, k < C.length → CouY C k) {i j : Nat} (hi : i < C.length) (hj : j < C.length) (e : (cAt C i).id = (cAt C j).id) : i = j := by
  rcases Nat.lt_trichotomy i j with h1 | h1 | h1
  · have := ids_up h j i h1 hj; omega
  · exact h1
  · have := ids_up h i j h1 hi; omega
/-- Where a counsellor of a valid desk is found. -/
theorem fnd_id {C : List CouD} (h : ∀ k, k < C.length → CouY C k) {i : Nat} (hi : i < C.length) : fndC C (cAt C i).id = i := by
  refine ixC_at hi (by unfold isId; exact beq_self_eq_true _) fun j hj => ?_
  have := ids_up h i j hj hi
  unfold isId; exact beq_eq_false_iff_ne.2 (by omega)
theorem fnd_cases (C : List CouD) (id : Int) : (fndC C id = -1 ∧ ∀ j, j < C.length → (cAt C j).id ≠ id) ∨ ∃ k : Nat, fndC C id = k ∧ k < C.length ∧ (cAt C k).id = id := by
  rcases ixC_cases (isId id) C with ⟨h1, h2⟩ | ⟨k, h1, h2, h3, -⟩
  · exact .inl ⟨h1, fun j hj e => by have := h2 j hj; unfold isId at this; rw [e, beq_self_eq_true] at this; cases this⟩
  · exact .inr ⟨k, h1, h2, by unfold isId at h3; exact eq_of_beq h3⟩

/-! ### The document's choice -/
def betB (K : List CaseD) (C : List CouD) (i b : Nat) : Bool :=
  decide (loadN K (cAt C i).id < loadN K (cAt C b).id) || (decide (loadN K (cAt C i).id = loadN K (cAt C b).id) && decide (casN K (cAt C i).id < casN K (cAt C b).id))
def bstI (K : List CaseD) (C : List CouD) (r o : ByteArray) : Nat → Int
  | 0 => -1
  | i + 1 => if canB (cAt C i) r o = true then (if bstI K C r o i < 0 then (i : Int) else if betB K C i (bstI K C r o i).toNat = true then (i : Int) else bstI K C r o i) else bstI K C r o i
def refCh (D : DeskD) (r o : ByteArray) : Int := match D.ks.reverse.find? (hitK r o) with
  | some x => if 0 ≤ fndC D.cs x.c ∧ canB (cAt D.cs (fndC D.cs x.c).toNat) r o = true then fndC D.cs x.c else bstI D.ks D.cs r o D.cs.length
  | none => bstI D.ks D.cs r o D.cs.length
theorem tAt_app1 {L : List TalD} {t : TalD} {k : Nat} (h : k < L.length) : tAt (L ++ [t]) k = tAt L k := by
  unfold tAt; simp only [List.getD_eq_getElem?_getD]; rw [List.getElem?_append_left h]
theorem tAt_app2 {L : List TalD} {t : TalD} {k : Nat} (h : k = L.length) : tAt (L ++ [t]) k = t := by subst h; simp [tAt, List.getD_eq_getElem?_getD]
theorem minK_app {L : List TalD} {t : TalD} : ∀ k, k < L.length → minK (L ++ [t]) k = minK L k
  | 0, h => tAt_app1 h
  | k + 1, h => by
    unfold minK
    rw [tAt_app1 h, minK_app k (by omega)]
theorem cmpI_lt {x y : Int} (h : x < y) : cmpI x y = -1 := by unfold cmpI; rw [if_pos h]
theorem cmpI_gt {x y : Int} (h : y < x) : cmpI x y = 1 := by unfold cmpI; rw [if_neg (by omega), if_pos h]
theorem cmpI_eq {x y : Int} (h : x = y) : cmpI x y = 0 := by unfold cmpI; rw [if_neg (by omega), if_neg (by omega)]
theorem orI_0 (y z : Int) : orI 0 y z = if y ≠ 0 then y else z := by unfold orI; rw [if_neg (by simp)]
theorem orI_n {x : Int} (h : x ≠ 0) (y z : Int) : orI x y z = x := by unfold orI; rw [if_pos h]
theorem bet_cmp {K : List CaseD} {C : List CouD} {i b : Nat} (h : (cAt C b).id < (cAt C i).id) : tcmp (talD K (cAt C i).id) (talD K (cAt C b).id) < 0 ↔ betB K C i b = true := by
  unfold tcmp betB talD
  simp only [Bool.or_eq_true, Bool.and_eq_true, decide_eq_true_eq]
  generalize loadN K (cAt C i).id = a
  generalize loadN K (cAt C b).id = a'
  generalize casN K (cAt C i).id = c
  generalize casN K (cAt C b).id = c'
  rw [cmpI_gt h]
  rcases Nat.lt_trichotomy a a' with h1 | h1 | h1
  · rw [cmpI_lt (by omega), orI_n (by decide)]
    exact ⟨fun _ => .inl h1, fun _ => by decide⟩
  · rw [cmpI_eq (by omega), orI_0]
    rcases Nat.lt_trichotomy c c' with h2 | h2 | h2
    · rw [cmpI_lt (by omega)]
      exact ⟨fun _ => .inr ⟨h1, h2⟩, fun _ => by decide⟩
    · rw [cmpI_eq (by omega)]
      constructor
      · intro e; exact absurd e (by decide)
      · intro e; omega
    · rw [cmpI_gt (by omega)]
      constructor
      · intro e; exact absurd e (by decide)
      · intro e; omega
  · rw [cmpI_gt (by omega), orI_n (by decide)]
    constructor
    · intro e; exact absurd e (by decide)
    · intro e; omega
theorem bst_min {K : List CaseD} {C : List CouD} {r o : ByteArray} (h : ∀ k, k < C.length → CouY C k) : ∀ n, n ≤ C.length →
    (talL K (C.take n) r o = [] ∧ bstI K C r o n = -1) ∨ (∃ b : Nat, bstI K C r o n = b ∧ b < n ∧ canB (cAt C b) r o = true ∧ 0 < (talL K (C.take n) r o).length ∧ minK (talL K (C.take n) r o) ((talL K (C.take n) r o).length - 1) = talD K (cAt C b).id)
  | 0, _ => .inl ⟨rfl, rfl⟩
  | n + 1, hn => by
    have hlt : n < C.length := hn
    cases q : canB (cAt C n) r o with
    | false =>
      have e1 : bstI K C r o (n + 1) = bstI K C r o n := by
        show (if _ then _ else _) = _
        rw [q]; rfl
      rw [talL_no hlt q, e1]
      rcases bst_min h n (by omega) with h1 | ⟨b, h1, h2, h3⟩
      · exact .inl h1
      · exact .inr ⟨b, h1, by omega, h3⟩
    | true =>
      have e1 : bstI K C r o (n + 1) = if bstI K C r o n < 0 then (n : Int) else if betB K C n (bstI K C r o n).toNat = true then (n : Int) else bstI K C r o n := by
        show (if _ then _ else _) = _
        rw [if_pos q]
      rw [talL_yes hlt q, e1]
      refine .inr ?_
      rcases bst_min h n (by omega) with ⟨h1, h2⟩ | ⟨b, h1, h2, h3, h4, h5⟩
      · rw [h1, h2, if_pos (by decide)]
        exact ⟨n, rfl, by omega, q, by simp, rfl⟩
      · generalize talL K (C.take n) r o = L at *
        rw [h1, if_neg (by omega), Int.toNat_natCast]
        have hl : (L ++ [talD K (cAt C n).id]).length - 1 = (L.length - 1) + 1 := by simp; omega
        have hm : minK (L ++ [talD K (cAt C n).id]) ((L.length - 1) + 1) = if tcmp (talD K (cAt C n).id) (talD K (cAt C b).id) < 0 then talD K (cAt C n).id else talD K (cAt C b).id := by
          show (if tcmp (tAt _ _) (minK _ _) < 0 then tAt _ _ else minK _ _) = _
          rw [tAt_app2 (by omega), minK_app _ (by omega), h5]
        have hbc := bet_cmp (K := K) (ids_up h n b h2 hlt)
        rw [hl, hm]
        by_cases e : betB K C n b = true
        · rw [if_pos e, if_pos (hbc.2 e)]
          exact ⟨n, rfl, by omega, q, by simp, rfl⟩
        · rw [if_neg e, if_neg (fun x => e (hbc.1 x))]
          exact ⟨b, rfl, by omega, h3, by simp, rfl⟩
theorem tal_any {K : List CaseD} {C : List CouD} {r o : ByteArray} {id : Int} : (talL K C r o).any (isTal id) = true ↔ ∃ k, k < C.length ∧ canB (cAt C k) r o = true ∧ (cAt C k).id = id := by
  unfold talL isTal
  rw [List.any_eq_true]
  constructor
  · rintro ⟨t, ht, e⟩
    obtain ⟨d, hd, rfl⟩ := List.mem_map.1 ht
    obtain ⟨hd1, hd2⟩ := List.mem_filter.1 hd
    obtain ⟨k, hk, rfl⟩ := List.getElem_of_mem hd1
    have e2 : C[k] = cAt C k := by have := cAt_get hk; rw [List.getElem?_eq_getElem hk] at this; injection this
    rw [e2] at hd2 e
    exact ⟨k, hk, hd2, by simpa [talD] using e⟩
  · rintro ⟨k, hk, h1, h2⟩
    refine ⟨talD K (cAt C k).id, List.mem_map.2 ⟨cAt C k, List.mem_filter.2 ⟨List.mem_of_getElem? (cAt_get hk), h1⟩, rfl⟩, ?_⟩
    simp [talD, h2]
theorem tal_id {L : List TalD} {b : Int} (h : minK L (L.length - 1) = ⟨b, (minK L (L.length - 1)).l, (minK L (L.length - 1)).n⟩) : (minK L (L.length - 1)).id = b := by rw [h]
/-- Both choose the same. -/
theorem ch_same {D : DeskD} (h : chkB D = true) (r o : ByteArray) : (chD D r o = 0 ∧ refCh D r o = -1) ∨ ∃ k : Nat, refCh D r o = k ∧ k < D.cs.length ∧ (cAt D.cs k).id = chD D r o ∧ chD D r o ≠ 0 ∧ canB (cAt D.cs k) r o = true := by
  have hy := chk_y.1 h
  have hc : ∀ k, k < D.cs.length → CouY D.cs k := fun k hk => cou_of.1 (hy.cou k hk)
  have hb := bst_min (K := D.ks) (r := r) (o := o) hc D.cs.length (Nat.le_refl _)
  rw [List.take_length] at hb
  unfold chD chI refCh
  rcases hb with ⟨h1, h2⟩ | ⟨b, h1, h2, h3, h4, h5⟩
  · refine .inl ?_
    have h1' : (talL D.ks D.cs r o).length = 0 := by rw [h1]; rfl
    rw [if_pos h1', h2]
    refine ⟨rfl, ?_⟩
    cases D.ks.reverse.find? (hitK r o) with
    | none => rfl
    | some x =>
      simp only
      rw [if_neg]
      rintro ⟨q1, q2⟩
      rcases fnd_cases D.cs x.c with ⟨q3, -⟩ | ⟨k, q3, q4, q5⟩
      · omega
      · rw [q3, Int.toNat_natCast] at q2
        have := (tal_any (K := D.ks) (r := r) (o := o)).2 ⟨k, q4, q2, q5⟩
        rw [h1] at this; cases this
  · refine .inr ?_
    rw [if_neg (by omega)]
    have hm : ∃ k : Nat, bstI D.ks D.cs r o D.cs.length = k ∧ k < D.cs.length ∧ (cAt D.cs k).id = (minK (talL D.ks D.cs r o) ((talL D.ks D.cs r o).length - 1)).id ∧ (minK (talL D.ks D.cs r o) ((talL D.ks D.cs r o).length - 1)).id ≠ 0 ∧ canB (cAt D.cs k) r o = true := by
      have hb := (hc b h2).id.1
      refine ⟨b, h1, h2, by rw [h5]; rfl, by rw [h5]; show (cAt D.cs b).id ≠ 0; omega, h3⟩
    cases D.ks.reverse.find? (hitK r o) with
    | none => exact hm
    | some x =>
      simp only
      rcases fnd_cases D.cs x.c with ⟨q3, q4⟩ | ⟨k, q3, q4, q5⟩
      · rw [if_neg (by omega), if_neg]
        · exact hm
        · intro e
          obtain ⟨k, e1, -, e2⟩ := tal_any.1 e
          exact q4 k e1 e2
      · cases q : canB (cAt D.cs k) r o with
        | true =>
          rw [if_pos ⟨by omega, by rw [q3, Int.toNat_natCast]; exact q⟩, if_pos (tal_any.2 ⟨k, q4, q, q5⟩)]
          exact ⟨k, q3, q4, q5, by have := (hc k q4).id.1; omega, q⟩
        | false =>
          rw [if_neg (by rw [q3, Int.toNat_natCast, q]; simp), if_neg]
          · exact hm
          · intro e
            obtain ⟨j, e1, e3, e2⟩ := tal_any.1 e
            have := ids_eq hc e1 q4 (by rw [e2, q5])
            subst this
            rw [q] at e3; cases e3
end Go.Proofs.Ytjckpammcgeloaa
namespace Go.Proofs.Ytjckpammcgeloaa
open Go.RowKit

def mxI (a b : Int) : Int := if a < b then b else a
def lvT (O : DeskD) (x : CaseD) : Int := mxI x.t (lastT O.ks)
def lvE : List CaseD → DeskD → Int
  | [], _ => 0
  | x :: l, O => if giveE O x.r x.o (lvT O x) = 0 then lvE l (giveD O x.r x.o (lvT O x)) else giveE O x.r x.o (lvT O x)
def lvD : List CaseD → DeskD → DeskD
  | [], O => O
  | x :: l, O => lvD l (giveD O x.r x.o (lvT O x))
def outC (D : DeskD) (id : Int) : List CouD := D.cs.eraseIdx (fndC D.cs id).toNat
def lv0 (D : DeskD) (id : Int) : DeskD := ⟨outC D id, D.ks.filter fun y => !ofC id y⟩
def leaveE (D : DeskD) (id : Int) : Int := if chkE D ≠ 0 then 1 else if fndC D.cs id < 0 then 41 else lvE (unseenL D.ks id) (lv0 D id)
def leaveD (D : DeskD) (id : Int) : DeskD := if leaveE D id = 0 then lvD (unseenL D.ks id) (lv0 D id) else D
theorem cAt_erase {C : List CouD} {i j : Nat} : cAt (C.eraseIdx i) j = if j < i then cAt C j else cAt C (j + 1) := by
  unfold cAt
  simp only [List.getD_eq_getElem?_getD, List.getElem?_eraseIdx]
  split <;> rfl
theorem kAt_of {K : List CaseD} {x : CaseD} (h : x ∈ K) : ∃ k, k < K.length ∧ kAt K k = x := by
  obtain ⟨k, hk, e⟩ := List.getElem_of_mem h
  refine ⟨k, hk, ?_⟩
  have := kAt_get hk
  rw [List.getElem?_eq_getElem hk] at this
  injection this with this
  rw [← this, e]
theorem kAt_in {K : List CaseD} {k : Nat} (h : k < K.length) : kAt K k ∈ K := List.mem_of_getElem? (kAt_get h)
theorem kAt_app1 {K M : List CaseD} {k : Nat} (h : k < K.length) : kAt (K ++ M) k = kAt K k := by
  unfold kAt; simp only [List.getD_eq_getElem?_getD]; rw [List.getElem?_append_left h]
theorem kAt_app2 {K : List CaseD} {x : CaseD} {k : Nat} (h : k = K.length) : kAt (K ++ [x]) k = x := by subst h; simp [kAt, List.getD_eq_getElem?_getD]
/-- Leave's loop, under way. -/
structure LvI (D : DeskD) (id : Int) (k : Nat) (O : DeskD) : Prop where
  e : lvE ((unseenL D.ks id).drop k) O = lvE (unseenL D.ks id) (lv0 D id)
  d : lvD ((unseenL D.ks id).drop k) O = lvD (unseenL D.ks id) (lv0 D id)
  cs : O.cs = outC D id
  lk : O.ks.length ≤ D.ks.length + k
  ca : ∀ j, j < O.ks.length → (kAt O.ks j).r.size ≤ maxLen ∧ (kAt O.ks j).o.size ≤ maxLen
section
variable {D : DeskD} {id : Int} {k : Nat} {O : DeskD}
theorem LvI.start (h : DeskS D) : LvI D id 0 (lv0 D id) := by
  refine ⟨rfl, rfl, rfl, List.length_filter_le _ _, fun j hj => ?_⟩
  have h1 := kAt_in hj
  obtain ⟨i, hi, e⟩ := kAt_of (List.mem_filter.1 h1).1
  rw [← e]; exact h.ca i hi
theorem LvI.small (H : LvI D id k O) (h : DeskS D) (hk : D.ks.length + k ≤ 1000) : DeskS O := by
  have hl : O.cs.length ≤ D.cs.length := by rw [H.cs]; exact List.length_eraseIdx_le ..
  refine ⟨by have := h.lc; omega, by have := H.lk; omega, fun j hj => ?_, H.ca⟩
  rw [H.cs] at hj ⊢
  unfold outC at hj ⊢
  have hl2 := List.length_eraseIdx (l := D.cs) (i := (fndC D.cs id).toNat)
  rw [cAt_erase]
  split
  · exact h.co j (by split at hl2 <;> omega)
  · exact h.co (j + 1) (by split at hl2 <;> omega)
theorem LvI.step (H : LvI D id k O) (h : DeskS D) (hk : k < (unseenL D.ks id).length) (hg : giveE O (kAt (unseenL D.ks id) k).r (kAt (unseenL D.ks id) k).o (lvT O (kAt (unseenL D.ks id) k)) = 0) :
    LvI D id (k + 1) (giveD O (kAt (unseenL D.ks id) k).r (kAt (unseenL D.ks id) k).o (lvT O (kAt (unseenL D.ks id) k))) := by
  have hdr := drop_k hk
  have he := H.e
  have hd := H.d
  rw [hdr] at he hd
  have hm := kAt_in hk
  obtain ⟨i, hi, e⟩ := kAt_of (List.mem_filter.1 hm).1
  have hsz := h.ca i hi
  rw [e] at hsz
  generalize kAt (unseenL D.ks id) k = x at *
  have hG : giveD O x.r x.o (lvT O x) = ⟨O.cs, O.ks ++ [⟨chD O x.r x.o, x.r, x.o, lvT O x, false⟩]⟩ := by unfold giveD; rw [if_pos hg]
  refine ⟨?_, ?_, by rw [hG]; exact H.cs, by rw [hG]; simp; have := H.lk; omega, fun j hj => ?_⟩
  · rw [← he]; show _ = (if _ then _ else _); rw [if_pos hg]
  · rw [← hd]; rfl
  · rw [hG] at hj ⊢
    simp only [List.length_append, List.length_singleton] at hj
    by_cases hj2 : j < O.ks.length
    · show (kAt (O.ks ++ _) j).r.size ≤ _ ∧ _
      rw [kAt_app1 hj2]; exact H.ca j hj2
    · show (kAt (O.ks ++ _) j).r.size ≤ _ ∧ (kAt (O.ks ++ _) j).o.size ≤ _
      rw [kAt_app2 (by omega)]; exact hsz
theorem LvI.bad (H : LvI D id k O) (hc : chkE D = 0) (hf : ¬ fndC D.cs id < 0) (hk : k < (unseenL D.ks id).length) {er : Int} (hg : giveE O (kAt (unseenL D.ks id) k).r (kAt (unseenL D.ks id) k).o (lvT O (kAt (unseenL D.ks id) k)) = er) (h0 : er ≠ 0) : leaveE D id = er ∧ leaveD D id = D := by
  have he := H.e
  rw [drop_k hk] at he
  have h1 : lvE (unseenL D.ks id) (lv0 D id) = er := by
    rw [← he]
    show (if _ then _ else _) = _
    rw [hg, if_neg h0]
  have h2 : leaveE D id = er := by unfold leaveE; rw [if_neg (by rw [hc]; decide), if_neg hf, h1]
  exact ⟨h2, by unfold leaveD; rw [h2, if_neg h0]⟩
theorem LvI.done (H : LvI D id k O) (hc : chkE D = 0) (hf : ¬ fndC D.cs id < 0) (hk : k = (unseenL D.ks id).length) : leaveE D id = 0 ∧ leaveD D id = O := by
  have he := H.e
  have hd := H.d
  rw [hk, List.drop_length] at he hd
  have h2 : leaveE D id = 0 := by unfold leaveE; rw [if_neg (by rw [hc]; decide), if_neg hf, ← he]; rfl
  exact ⟨h2, by unfold leaveD; rw [h2, if_pos rfl, ← hd]; rfl⟩
end
end Go.Proofs.Ytjckpammcgeloaa
namespace Go.Proofs.Ytjckpammcgeloaa
open Go.RowKit

structure CouG (d : CouD) : Prop where
  id : 1 ≤ d.id ∧ d.id ≤ 1048576
  role : 1 ≤ (d.o.size : Int) ∧ (d.o.size : Int) ≤ 32
  away : d.away.length ≤ 256
  long : d.away.any lngB = false
def ValK (C : List CouD) (x : CaseD) : Prop := (∃ d ∈ C, d.id = x.c ∧ d.o = x.o) ∧ lngB x.r = false ∧ 0 ≤ x.t ∧ x.t ≤ 1099511627776
/-- A valid desk. -/
structure Val (D : DeskD) : Prop where
  lc : D.cs.length ≤ 32
  lk : D.ks.length ≤ 256
  cou : ∀ d ∈ D.cs, CouG d
  up : D.cs.Pairwise (fun a b => a.id < b.id)
  cas : ∀ x ∈ D.ks, ValK D.cs x
  tm : D.ks.Pairwise (fun a b => a.t ≤ b.t)
/-- Nobody has a case of somebody in their Away. -/
def AwK (D : DeskD) : Prop := ∀ x ∈ D.ks, ∀ d ∈ D.cs, d.id = x.c → canB d x.r x.o = true
theorem cAt_of {C : List CouD} {x : CouD} (h : x ∈ C) : ∃ k, k < C.length ∧ cAt C k = x := by
  obtain ⟨k, hk, e⟩ := List.getElem_of_mem h
  refine ⟨k, hk, ?_⟩
  have := cAt_get hk
  rw [List.getElem?_eq_getElem hk] at this
  injection this with this
  rw [← this, e]
theorem cAt_in {C : List CouD} {k : Nat} (h : k < C.length) : cAt C k ∈ C := List.mem_of_getElem? (cAt_get h)
theorem cAt_getElem {C : List CouD} {k : Nat} (h : k < C.length) : C[k] = cAt C k := by
  have := cAt_get h; rw [List.getElem?_eq_getElem h] at this; injection this
theorem kAt_getElem {C : List CaseD} {k : Nat} (h : k < C.length) : C[k] = kAt C k := by
  have := kAt_get h; rw [List.getElem?_eq_getElem h] at this; injection this
theorem tm_up {K : List CaseD} (h : ∀ k, k < K.length → k = 0 ∨ (kAt K (k - 1)).t ≤ (kAt K k).t) : ∀ j i, i < j → j < K.length → (kAt K i).t ≤ (kAt K j).t
  | 0, i, hi, _ => absurd hi (by omega)
  | j + 1, i, hi, hj => by
    have h1 := h (j + 1) hj
    rw [Nat.add_sub_cancel] at h1
    have h2 : (kAt K j).t ≤ (kAt K (j + 1)).t := h1.resolve_left (by omega)
    by_cases e : i = j
    · subst e; exact h2
    · have := tm_up h j i (by omega) (by omega); omega
theorem val_of {D : DeskD} : chkB D = true ↔ Val D := by
  rw [chk_y]
  constructor
  · intro h
    have hc : ∀ k, k < D.cs.length → CouY D.cs k := fun k hk => cou_of.1 (h.cou k hk)
    have hk : ∀ k, k < D.ks.length → CasY D k := fun k hk => cas_of.1 (h.cas k hk)
    refine ⟨h.lc, h.lk, fun d hd => ?_, ?_, fun x hx => ?_, ?_⟩
    · obtain ⟨k, hk, rfl⟩ := cAt_of hd
      have := hc k hk
      exact ⟨this.id, this.role, this.away, this.long⟩
    · rw [List.pairwise_iff_getElem]
      intro i j hi hj hij
      rw [cAt_getElem hi, cAt_getElem hj]
      exact ids_up hc j i hij hj
    · obtain ⟨k, hk2, rfl⟩ := kAt_of hx
      have := hk k hk2
      rcases fnd_cases D.cs (kAt D.ks k).c with ⟨h1, -⟩ | ⟨j, h1, h2, h3⟩
      · have := this.fnd; omega
      · have hr := this.role
        rw [h1, Int.toNat_natCast] at hr
        exact ⟨⟨_, cAt_in h2, h3, hr⟩, this.long, this.time.1, this.time.2⟩
    · rw [List.pairwise_iff_getElem]
      intro i j hi hj hij
      rw [kAt_getElem hi, kAt_getElem hj]
      exact tm_up (fun k h => (hk k h).prev) j i hij hj
  · intro h
    have hup : ∀ j i, i < j → j < D.cs.length → (cAt D.cs i).id < (cAt D.cs j).id := fun j i hij hj => by
      have := List.pairwise_iff_getElem.1 h.up i j (by omega) hj hij
      rw [cAt_getElem (by omega), cAt_getElem hj] at this; exact this
    have hc : ∀ k, k < D.cs.length → CouY D.cs k := fun k hk => by
      have g := h.cou _ (cAt_in hk)
      refine ⟨g.id, ?_, g.role, g.away, g.long⟩
      by_cases e : k = 0
      · exact .inl e
      · exact .inr (hup k (k - 1) (by omega) hk)
    refine ⟨h.lc, h.lk, fun k hk => cou_of.2 (hc k hk), fun k hk => cas_of.2 ?_⟩
    obtain ⟨⟨d, hd, e1, e2⟩, g1, g2, g3⟩ := h.cas _ (kAt_in hk)
    obtain ⟨j, hj, rfl⟩ := cAt_of hd
    have hf : fndC D.cs (kAt D.ks k).c = j := by rw [← e1]; exact fnd_id hc hj
    refine ⟨by omega, by rw [hf, Int.toNat_natCast]; exact e2, g1, ⟨g2, g3⟩, ?_⟩
    by_cases e : k = 0
    · exact .inl e
    · right
      have := List.pairwise_iff_getElem.1 h.tm (k - 1) k (by omega) hk (by omega)
      rw [kAt_getElem (by omega), kAt_getElem hk] at this; exact this
theorem chkE_0 {D : DeskD} : chkE D = 0 ↔ Val D := by
  rw [← val_of]; unfold chkE
  split
  · rename_i h; exact ⟨fun _ => h, fun _ => rfl⟩
  · rename_i h; exact ⟨fun e => absurd e (by decide), fun e => absurd e h⟩
theorem Val.same_id {D : DeskD} (h : Val D) {d e : CouD} (hd : d ∈ D.cs) (he : e ∈ D.cs) (hi : d.id = e.id) : d = e := by
  obtain ⟨i, hil, rfl⟩ := cAt_of hd
  obtain ⟨j, hjl, rfl⟩ := cAt_of he
  have hc : ∀ k, k < D.cs.length → CouY D.cs k := fun k hk => cou_of.1 ((chk_y.1 (val_of.2 h)).cou k hk)
  rw [ids_eq hc hil hjl hi]
/-- Whom a valid desk chooses. -/
theorem Val.chosen {D : DeskD} (h : Val D) (r o : ByteArray) (h0 : chD D r o ≠ 0) : ∃ d ∈ D.cs, d.id = chD D r o ∧ canB d r o = true := by
  rcases ch_same (val_of.2 h) r o with ⟨h1, -⟩ | ⟨k, -, h2, h3, -, h4⟩
  · exact absurd h1 h0
  · exact ⟨_, cAt_in h2, h3, h4⟩
theorem Val.none_ {D : DeskD} (h : Val D) {r o : ByteArray} {d : CouD} (hd : d ∈ D.cs) (hc : canB d r o = true) : chD D r o ≠ 0 := by
  have hy := chk_y.1 (val_of.2 h)
  have hcy : ∀ k, k < D.cs.length → CouY D.cs k := fun k hk => cou_of.1 (hy.cou k hk)
  rcases ch_same (val_of.2 h) r o with ⟨h1, -⟩ | ⟨k, -, -, -, h3, -⟩
  · obtain ⟨j, hj, rfl⟩ := cAt_of hd
    have ha := (tal_any (K := D.ks) (r := r) (o := o)).2 ⟨j, hj, hc, rfl⟩
    unfold chD chI at h1 ⊢
    by_cases e : (talL D.ks D.cs r o).length = 0
    · have : talL D.ks D.cs r o = [] := List.eq_nil_of_length_eq_zero e
      rw [this] at ha; cases ha
    · rw [if_neg e] at h1 ⊢
      have hb := bst_min (K := D.ks) (r := r) (o := o) hcy D.cs.length (Nat.le_refl _)
      rw [List.take_length] at hb
      rcases hb with ⟨q1, -⟩ | ⟨b, -, q2, -, -, q5⟩
      · rw [q1] at e; exact absurd rfl e
      · have hid := (hcy b q2).id.1
        have hm : (minK (talL D.ks D.cs r o) ((talL D.ks D.cs r o).length - 1)).id ≠ 0 := by rw [q5]; show (cAt D.cs b).id ≠ 0; omega
        cases hf : D.ks.reverse.find? (hitK r o) with
        | none => rw [hf] at h1; exact absurd h1 hm
        | some x =>
          rw [hf] at h1
          simp only at h1
          split at h1
          · rename_i hq
            obtain ⟨i, hi, -, hx⟩ := tal_any.1 hq
            have := (hcy i hi).id.1
            omega
          · exact absurd h1 hm
  · exact h3
theorem canB_o {d : CouD} {r o : ByteArray} (h : canB d r o = true) : d.o = o := by
  unfold canB at h
  rw [Bool.and_eq_true] at h
  exact eqS_iff.1 h.2
theorem giveE_ok {D : DeskD} {r o : ByteArray} {t : Int} (h : giveE D r o t = 0) : Val D ∧ lngB r = false ∧ (0 ≤ t ∧ t ≤ 1099511627776) ∧ lastT D.ks ≤ t ∧ chD D r o ≠ 0 ∧ D.ks.length < 256 := by
  unfold giveE at h
  split at h
  · cases h
  · rename_i h1
    split at h
    · cases h
    · rename_i h2
      split at h
      · cases h
      · rename_i h3
        split at h
        · cases h
        · rename_i h4
          split at h
          · cases h
          · rename_i h5
            refine ⟨chkE_0.1 (Classical.not_not.1 h1), by simpa using h2, ?_, ?_, h4, by omega⟩
            · refine inI_of ?_
              cases e : inI t 0 1099511627776 with
              | true => rfl
              | false => exact absurd (.inl e) h3
            · exact Int.not_lt.1 fun e => h3 (.inr e)
theorem giveE_yes {D : DeskD} {r o : ByteArray} {t : Int} (h1 : Val D) (h2 : lngB r = false) (h3 : 0 ≤ t ∧ t ≤ 1099511627776) (h4 : lastT D.ks ≤ t) (h5 : D.ks.length < 256) : giveE D r o t = if chD D r o = 0 then 50 else 0 := by
  unfold giveE
  rw [if_neg (by rw [chkE_0.2 h1]; decide), if_neg (by rw [h2]; decide), if_neg (by
    rintro (e | e)
    · exact inI_no e h3
    · omega)]
  split
  · rfl
  · rw [if_neg (by omega)]
theorem giveD_ok {D : DeskD} {r o : ByteArray} {t : Int} (h : giveE D r o t = 0) : giveD D r o t = ⟨D.cs, D.ks ++ [⟨chD D r o, r, o, t, false⟩]⟩ := by unfold giveD; rw [if_pos h]
theorem lastT_ge {K : List CaseD} (h : K.Pairwise (fun a b => a.t ≤ b.t)) {x : CaseD} (hx : x ∈ K) : x.t ≤ lastT K := by
  obtain ⟨k, hk, rfl⟩ := kAt_of hx
  unfold lastT
  rw [if_neg (by omega)]
  by_cases e : k = K.length - 1
  · rw [e]; exact Int.le_refl _
  · have := List.pairwise_iff_getElem.1 h k (K.length - 1) hk (by omega) (by omega)
    rw [kAt_getElem hk, kAt_getElem (by omega)] at this; exact this
theorem lastT_le {K : List CaseD} {T : Int} (h0 : 0 ≤ T) (h : ∀ x ∈ K, x.t ≤ T) : lastT K ≤ T := by
  unfold lastT
  split
  · exact h0
  · exact h _ (kAt_in (by omega))
theorem lastT_0 {K : List CaseD} (h : ∀ x ∈ K, 0 ≤ x.t) : 0 ≤ lastT K := by
  unfold lastT
  split
  · exact Int.le_refl _
  · exact h _ (kAt_in (by omega))
/-- A desk stays valid when a case is given. -/
theorem give_val {D : DeskD} {r o : ByteArray} {t : Int} (h : giveE D r o t = 0) : Val (giveD D r o t) := by
  obtain ⟨hv, h2, h3, h4, h5, h6⟩ := giveE_ok h
  rw [giveD_ok h]
  obtain ⟨d, hd, e1, e2⟩ := hv.chosen r o h5
  refine ⟨hv.lc, by simp; omega, hv.cou, hv.up, fun x hx => ?_, ?_⟩
  · rcases List.mem_append.1 hx with hx | hx
    · exact hv.cas x hx
    · rw [List.mem_singleton] at hx; subst hx
      exact ⟨⟨d, hd, e1, canB_o e2⟩, h2, h3⟩
  · rw [List.pairwise_append]
    refine ⟨hv.tm, List.pairwise_singleton _ _, fun a ha b hb => ?_⟩
    rw [List.mem_singleton] at hb; subst hb
    have := lastT_ge hv.tm ha
    show a.t ≤ t; omega
theorem give_aw {D : DeskD} {r o : ByteArray} {t : Int} (h : giveE D r o t = 0) (ha : AwK D) : AwK (giveD D r o t) := by
  obtain ⟨hv, h2, h3, h4, h5, h6⟩ := giveE_ok h
  rw [giveD_ok h]
  obtain ⟨d, hd, e1, e2⟩ := hv.chosen r o h5
  intro x hx e he hid
  rcases List.mem_append.1 hx with hx | hx
  · exact ha x hx e he hid
  · rw [List.mem_singleton] at hx; subst hx
    have : e = d := hv.same_id he hd (by rw [hid, e1])
    rw [this]; exact e2
/-- Who has had a respondent keeps them. -/
theorem give_stays {D : DeskD} {r o : ByteArray} {t : Int} (h : giveE D r o t = 0) (ha : AwK D) {x : CaseD} (hx : D.ks.reverse.find? (hitK r o) = some x) : x.c = chD D r o := by
  obtain ⟨hv, h2, h3, h4, h5, h6⟩ := giveE_ok h
  have hm : x ∈ D.ks := List.mem_reverse.1 (List.mem_of_find?_eq_some hx)
  have hh := List.find?_some hx
  unfold hitK at hh
  rw [Bool.and_eq_true, eqS_iff, eqS_iff] at hh
  obtain ⟨⟨d, hd, e1, -⟩, -⟩ := hv.cas x hm
  have hc := ha x hm d hd e1
  rw [hh.1, hh.2] at hc
  obtain ⟨j, hj, rfl⟩ := cAt_of hd
  have hany := (tal_any (K := D.ks) (r := r) (o := o)).2 ⟨j, hj, hc, e1⟩
  unfold chD chI
  rw [if_neg, hx]
  · simp only
    rw [if_pos hany]
  · intro e
    have : talL D.ks D.cs r o = [] := List.eq_nil_of_length_eq_zero e
    rw [this] at hany; cases hany

/-! ### Ack -/
def setS (K : List CaseD) (k : Nat) : List CaseD := K.set k ⟨(kAt K k).c, (kAt K k).r, (kAt K k).o, (kAt K k).t, true⟩
theorem setS_mem {K : List CaseD} {k : Nat} (hk : k < K.length) {x : CaseD} (h : x ∈ setS K k) : ∃ y ∈ K, x.c = y.c ∧ x.r = y.r ∧ x.o = y.o ∧ x.t = y.t := by
  unfold setS at h
  rcases List.mem_or_eq_of_mem_set h with h | h
  · exact ⟨x, h, rfl, rfl, rfl, rfl⟩
  · exact ⟨_, kAt_in hk, by rw [h], by rw [h], by rw [h], by rw [h]⟩
theorem set_val {D : DeskD} {k : Nat} (hk : k < D.ks.length) (h : Val D) : Val ⟨D.cs, setS D.ks k⟩ := by
  refine ⟨h.lc, by show (setS D.ks k).length ≤ 256; unfold setS; rw [List.length_set]; exact h.lk, h.cou, h.up, fun x hx => ?_, ?_⟩
  · obtain ⟨y, hy, e1, e2, e3, e4⟩ := setS_mem hk hx
    obtain ⟨⟨d, hd, q1, q2⟩, q3, q4⟩ := h.cas y hy
    exact ⟨⟨d, hd, by rw [q1, e1], by rw [q2, e3]⟩, by rw [e2]; exact q3, by rw [e4]; exact q4⟩
  · have h1 : (D.ks.map (·.t)).Pairwise (· ≤ ·) := by rw [List.pairwise_map]; exact h.tm
    have h2 : (setS D.ks k).map (·.t) = D.ks.map (·.t) := by
      unfold setS
      rw [List.map_set]
      apply List.ext_getElem?
      intro i
      rw [List.getElem?_set]
      split
      · rename_i e
        subst e
        simp only [List.length_map, hk, if_true, List.getElem?_map, kAt_get hk, Option.map_some]
      · rfl
    rw [← h2, List.pairwise_map] at h1
    exact h1
theorem set_aw {D : DeskD} {k : Nat} (hk : k < D.ks.length) (h : AwK D) : AwK ⟨D.cs, setS D.ks k⟩ := by
  intro x hx d hd hid
  obtain ⟨y, hy, e1, e2, e3, e4⟩ := setS_mem hk hx
  rw [e2, e3]; exact h y hy d hd (by rw [hid, e1])

/-! ### Leave -/
theorem out_mem {D : DeskD} {id : Int} {d : CouD} (h : Val D) (hf : ¬ fndC D.cs id < 0) (hd : d ∈ D.cs) (hne : d.id ≠ id) : d ∈ outC D id := by
  rcases fnd_cases D.cs id with ⟨h1, -⟩ | ⟨k, h1, h2, h3⟩
  · omega
  · unfold outC
    rw [h1, Int.toNat_natCast, List.mem_eraseIdx_iff_getElem]
    obtain ⟨j, hj, rfl⟩ := cAt_of hd
    refine ⟨j, hj, fun e => hne (by rw [e]; exact h3), cAt_getElem hj⟩
theorem out_sub (D : DeskD) (id : Int) : (outC D id).Sublist D.cs := List.eraseIdx_sublist ..
theorem out_ne {D : DeskD} {id : Int} {d : CouD} (h : Val D) (hf : ¬ fndC D.cs id < 0) (hd : d ∈ outC D id) : d.id ≠ id := by
  rcases fnd_cases D.cs id with ⟨h1, -⟩ | ⟨k, h1, h2, h3⟩
  · omega
  · unfold outC at hd
    rw [h1, Int.toNat_natCast, List.mem_eraseIdx_iff_getElem] at hd
    obtain ⟨j, hj, hjk, e⟩ := hd
    rw [cAt_getElem hj] at e
    intro e2
    have hcy : ∀ k, k < D.cs.length → CouY D.cs k := fun k hk => cou_of.1 ((chk_y.1 (val_of.2 h)).cou k hk)
    exact hjk (ids_eq hcy hj h2 (by rw [e, e2, h3]))
theorem lv0_val {D : DeskD} {id : Int} (h : Val D) (hf : ¬ fndC D.cs id < 0) : Val (lv0 D id) := by
  have hs := out_sub D id
  refine ⟨Nat.le_trans hs.length_le h.lc, Nat.le_trans (List.length_filter_le _ _) h.lk, fun d hd => h.cou d (hs.subset hd), h.up.sublist hs, fun x hx => ?_, h.tm.sublist List.filter_sublist⟩
  obtain ⟨hx1, hx2⟩ := List.mem_filter.1 hx
  obtain ⟨⟨d, hd, q1, q2⟩, q3⟩ := h.cas x hx1
  have hne : d.id ≠ id := by
    intro e
    unfold ofC at hx2
    rw [← q1, e] at hx2
    simp at hx2
  exact ⟨⟨d, out_mem h hf hd hne, q1, q2⟩, q3⟩
theorem lv0_aw {D : DeskD} {id : Int} (h : AwK D) : AwK (lv0 D id) := fun x hx d hd hid => h x (List.mem_filter.1 hx).1 d ((out_sub D id).subset hd) hid
def unS (K : List CaseD) : Nat := K.countP fun x => !x.s
/-- What the loop of Leave keeps. -/
structure LvY (C : List CouD) (T : Int) (O : DeskD) : Prop where
  v : Val O
  cs : O.cs = C
  t : ∀ x ∈ O.ks, x.t ≤ T
theorem lv_run {C : List CouD} {T : Int} (hT : 0 ≤ T) (hT2 : T ≤ 1099511627776) : ∀ (l : List CaseD) (O : DeskD), LvY C T O → (∀ x ∈ l, lngB x.r = false ∧ 0 ≤ x.t ∧ x.t ≤ T) → O.ks.length + l.length ≤ 256 →
    (lvE l O = 50 ∨ (lvE l O = 0 ∧ LvY C T (lvD l O) ∧ (lvD l O).ks.length = O.ks.length + l.length ∧ unS (lvD l O).ks = unS O.ks + l.length ∧ (AwK O → AwK (lvD l O))))
  | [], O, hO, _, _ => .inr ⟨rfl, hO, rfl, rfl, id⟩
  | x :: l, O, hO, hl, hn => by
    obtain ⟨x1, x2, x3⟩ := hl x (List.mem_cons_self ..)
    have hl0 := lastT_0 (K := O.ks) fun y hy => (hO.v.cas y hy).2.2.1
    have hlT := lastT_le (K := O.ks) hT hO.t
    have hm : 0 ≤ lvT O x ∧ lvT O x ≤ T ∧ lastT O.ks ≤ lvT O x := by
      unfold lvT mxI; split <;> omega
    have hg := giveE_yes (D := O) (r := x.r) (o := x.o) (t := lvT O x) hO.v x1 ⟨hm.1, by omega⟩ hm.2.2 (by simp at hn; omega)
    by_cases h0 : chD O x.r x.o = 0
    · rw [if_pos h0] at hg
      left
      show (if _ then _ else _) = _
      rw [hg]; rfl
    · rw [if_neg h0] at hg
      have hD := giveD_ok hg
      have e1 : lvE (x :: l) O = lvE l (giveD O x.r x.o (lvT O x)) := by
        show (if _ then _ else _) = _
        rw [if_pos hg]
      have e2 : lvD (x :: l) O = lvD l (giveD O x.r x.o (lvT O x)) := rfl
      have hY : LvY C T (giveD O x.r x.o (lvT O x)) := by
        refine ⟨give_val hg, by rw [hD]; exact hO.cs, fun y hy => ?_⟩
        rw [hD] at hy
        rcases List.mem_append.1 hy with hy | hy
        · exact hO.t y hy
        · rw [List.mem_singleton] at hy; subst hy; exact hm.2.1
      have hlen : (giveD O x.r x.o (lvT O x)).ks.length = O.ks.length + 1 := by rw [hD]; simp
      have hun : unS (giveD O x.r x.o (lvT O x)).ks = unS O.ks + 1 := by rw [hD]; unfold unS; simp
      rw [e1, e2]
      rcases lv_run hT hT2 l _ hY (fun y hy => hl y (List.mem_cons_of_mem _ hy)) (by simp at hn; omega) with h | ⟨h1, h2, h3, h4, h5⟩
      · exact .inl h
      · exact .inr ⟨h1, h2, by rw [h3, hlen]; simp; omega, by rw [h4, hun]; simp; omega, fun ha => h5 (give_aw hg ha)⟩
theorem leave_parts (K : List CaseD) (id : Int) : (K.filter fun y => !ofC id y).length + (unseenL K id).length ≤ K.length ∧ unS (K.filter fun y => !ofC id y) + (unseenL K id).length = unS K := by
  induction K with
  | nil => exact ⟨Nat.le_refl _, rfl⟩
  | cons x K ih =>
    obtain ⟨h1, h2⟩ := ih
    unfold unseenL unS ofC unC at *
    cases e : x.c == id <;> cases s : x.s <;> simp [e, s] at h1 h2 ⊢ <;> omega
/-- What Leave answers on a valid desk. -/
theorem leave_val {D : DeskD} {id : Int} (h : Val D) (hf : ¬ fndC D.cs id < 0) {T : Int} (hT : 0 ≤ T) (hT2 : T ≤ 1099511627776) (ht : ∀ x ∈ D.ks, x.t ≤ T) :
    leaveE D id = 50 ∨ (leaveE D id = 0 ∧ LvY (outC D id) T (leaveD D id) ∧ (leaveD D id).ks.length ≤ D.ks.length ∧ unS (leaveD D id).ks = unS D.ks ∧ (AwK D → AwK (leaveD D id))) := by
  obtain ⟨p1, p2⟩ := leave_parts D.ks id
  have hY : LvY (outC D id) T (lv0 D id) := ⟨lv0_val h hf, rfl, fun x hx => ht x (List.mem_filter.1 hx).1⟩
  have hlk := h.lk
  have hr := lv_run hT hT2 (unseenL D.ks id) (lv0 D id) hY (fun x hx => by
    have hm := (List.mem_filter.1 hx).1
    obtain ⟨-, q1, q2, q3⟩ := h.cas x hm
    exact ⟨q1, q2, ht x hm⟩) (by show (D.ks.filter _).length + _ ≤ _; omega)
  have he : leaveE D id = lvE (unseenL D.ks id) (lv0 D id) := by unfold leaveE; rw [if_neg (by rw [chkE_0.2 h]; decide), if_neg hf]
  rcases hr with h1 | ⟨h1, h2, h3, h4, h5⟩
  · exact .inl (by rw [he, h1])
  · have hd : leaveD D id = lvD (unseenL D.ks id) (lv0 D id) := by unfold leaveD; rw [he, h1, if_pos rfl]
    refine .inr ⟨by rw [he, h1], by rw [hd]; exact h2, ?_, ?_, fun ha => by rw [hd]; exact h5 (lv0_aw ha)⟩
    · rw [hd, h3]; exact p1
    · rw [hd, h4]; exact p2
theorem leave_pos {D : DeskD} {id : Int} (h : leaveE D id = 0) : Val D ∧ ¬ fndC D.cs id < 0 := by
  unfold leaveE at h
  split at h
  · cases h
  · rename_i h1
    split at h
    · cases h
    · rename_i h2
      exact ⟨chkE_0.1 (Classical.not_not.1 h1), h2⟩
end Go.Proofs.Ytjckpammcgeloaa
namespace Go.Proofs.Ytjckpammcgeloaa
open Go.RowKit

theorem results_deskcase {fn : Func} {p q u : Tmp} (h : fn.results = #[.cell p 30, .cell q 37, .tmp u]) (tmps : Array Value) (w : World) (g1 g2 : Nat) (hp : tmps.getD p undef = .pointer (some ⟨g1, 0, none⟩)) (hq : tmps.getD q undef = .pointer (some ⟨g2, 0, none⟩)) {a b : Value} {x : CaseD} (hX : DeskCell w g1 a b) (hY : CaseC w g2 x) :
    (results fn tmps).run Try.prog w = .ok (.tuple #[.agg #[a, b], caseV x, tmps.getD u undef]) w := by
  have hp' : tmps[p]?.getD undef = .pointer (some ⟨g1, 0, none⟩) := by simpa using hp
  have hq' : tmps[q]?.getD undef = .pointer (some ⟨g2, 0, none⟩) := by simpa using hq
  have hl := run_loadVar_row (P := Try.prog) w g1 30 30 _ (0, 0) _ hX Try.underlying30 rfl (by kernel_rfl)
  have hl2 := run_loadVar_row (P := Try.prog) w g2 37 37 _ (0, 0) _ hY Try.underlying37 rfl (by kernel_rfl)
  simp [results, h, hp', hq', asAddr, hl, hl2, Result.andThen]
theorem DeskO.turn {w w' : World} {base : Nat} {u : Value} {D : DeskD} {K' : List CaseD} {g n c : Nat} (h : DeskO w base u (.slice (some ⟨g, 0, none⟩) n c) D) (ho : ElOwn EK 37 w' base (.slice (some ⟨g, 0, none⟩) n c) K') (hs : w'.heap.size = w.heap.size) (hb : ∀ b, b ≠ g → w'.heap[b]? = w.heap[b]?) :
    DeskO w' base u (.slice (some ⟨g, 0, none⟩) n c) ⟨D.cs, K'⟩ := by
  obtain ⟨X, h1, h2⟩ := h.cs
  refine ⟨⟨X, h1.kept (fun k hk => hb k (fun e => h.ne k hk (by subst e; rfl))), ?_⟩, ho, h.ne⟩
  exact h2.keep (w' := w') ⟨by omega, fun b q _ => hb b (fun e => q.2.2 (by subst e; rfl))⟩
def ackE (D : DeskD) (id : Int) : Int := if chkE D ≠ 0 then 1 else if fndC D.cs id < 0 then 41 else if unI D id < 0 then 5 else 0
def zeroK : CaseD := ⟨0, ⟨#[]⟩, ⟨#[]⟩, 0, false⟩
def seenK (x : CaseD) : CaseD := ⟨x.c, x.r, x.o, x.t, true⟩
def ackK (D : DeskD) (id : Int) : CaseD := if ackE D id = 0 then seenK (kAt D.ks (unI D id).toNat) else zeroK
def ackD (D : DeskD) (id : Int) : DeskD := if ackE D id = 0 then ⟨D.cs, D.ks.set (unI D id).toNat (seenK (kAt D.ks (unI D id).toNat))⟩ else ⟨[], []⟩
def AckP (D : DeskD) (id : Int) (w : World) (e : Ending) (w' : World) : Prop :=
  ∃ u x, e = .returned (.tuple #[.agg #[u, x], caseV (ackK D id), .int .i64 (ackE D id)]) ∧ DeskO w' w.heap.size u x (ackD D id) ∧ Below w.heap.size w w'
theorem DeskO.zero (w : World) (base : Nat) : DeskO w base (.slice none 0 0) (.slice none 0 0) ⟨[], []⟩ := ⟨⟨[], ElOwn.nil _ _ _ _, CousV.nil _ _⟩, ElOwn.nil _ _ _ _, fun b e => (by cases e)⟩
structure AkS (w wk : World) (bx : Nat) (u x : Value) (id : Int) (D : DeskD) : Prop where
  b : Below bx w wk
  d : DeskCell wk bx u x
  i : BoxE wk (bx + 1) (.int .i64 id) 3
  z : DeskCell wk (bx + 1 + 1) (.slice none 0 0) (.slice none 0 0)
  c : CaseC wk (bx + 1 + 1 + 1) zeroK
  o : DeskO wk (bx + 1 + 1 + 1 + 1) u x D
section
variable {w wk w' : World} {bx : Nat} {u x : Value} {id : Int} {D : DeskD}
theorem AkS.below (h : AkS w wk bx u x id D) (hb : Below wk.heap.size wk w') : AkS w w' bx u x id D := by
  have := h.d.lt
  exact ⟨h.b.trans (hb.mono (by omega)), h.d.below hb, h.i.below hb, h.z.below hb, h.c.below hb, h.o.below hb⟩
end
def errW (wk : World) (bx : Nat) : World :=
  (((((((wk.setCell ⟨bx + 1 + 1, 0, none⟩ (.slice none 0 0)).setCell ⟨bx + 1 + 1, 1, none⟩ (.slice none 0 0)).setCell ⟨bx + 1 + 1 + 1, 0, none⟩ (.int .i64 0)).setCell ⟨bx + 1 + 1 + 1, 1, none⟩ (.string ⟨#[]⟩)).setCell ⟨bx + 1 + 1 + 1, 2, none⟩ (.string ⟨#[]⟩)).setCell ⟨bx + 1 + 1 + 1, 3, none⟩ (.int .i64 0)).setCell ⟨bx + 1 + 1 + 1, 4, none⟩ (.bool false))
theorem CaseC.set5 {w : World} {x : Nat} {d : CaseD} (h : CaseC w x d) (c : Int) (r o : ByteArray) (t : Int) (s : Bool) :
    CaseC (((((w.setCell ⟨x, 0, none⟩ (.int .i64 c)).setCell ⟨x, 1, none⟩ (.string r)).setCell ⟨x, 2, none⟩ (.string o)).setCell ⟨x, 3, none⟩ (.int .i64 t)).setCell ⟨x, 4, none⟩ (.bool s)) x ⟨c, r, o, t, s⟩ := by unfold CaseC at h ⊢; simp [World.setCell, Array.getElem?_modify, h]
theorem CaseC.other {w : World} {x : Nat} {d : CaseD} (h : CaseC w x d) (p : Addr) (y : Value) (hp : x ≠ p.block) : CaseC (w.setCell p y) x d := (Below.heap_setCell w p y x hp).trans h
section
variable {w wk w' : World} {bx : Nat} {u x : Value} {id : Int} {D : DeskD}
theorem AkS.desk (h : AkS w wk bx u x id D) : DeskCell (errW wk bx) (bx + 1 + 1) (.slice none 0 0) (.slice none 0 0) :=
  (((((((h.z.set0 _).set1 _).other ⟨bx + 1 + 1 + 1, 0, none⟩ _ (by show bx + 1 + 1 ≠ bx + 1 + 1 + 1; omega)).other ⟨bx + 1 + 1 + 1, 1, none⟩ _ (by show bx + 1 + 1 ≠ bx + 1 + 1 + 1; omega)).other ⟨bx + 1 + 1 + 1, 2, none⟩ _ (by show bx + 1 + 1 ≠ bx + 1 + 1 + 1; omega)).other ⟨bx + 1 + 1 + 1, 3, none⟩ _ (by show bx + 1 + 1 ≠ bx + 1 + 1 + 1; omega)).other ⟨bx + 1 + 1 + 1, 4, none⟩ _ (by show bx + 1 + 1 ≠ bx + 1 + 1 + 1; omega))
theorem AkS.case (h : AkS w wk bx u x id D) : CaseC (errW wk bx) (bx + 1 + 1 + 1) zeroK :=
  ((h.c.other ⟨bx + 1 + 1, 0, none⟩ _ (by show bx + 1 + 1 + 1 ≠ bx + 1 + 1; omega)).other ⟨bx + 1 + 1, 1, none⟩ _ (by show bx + 1 + 1 + 1 ≠ bx + 1 + 1; omega)).set5 0 ⟨#[]⟩ ⟨#[]⟩ 0 false
theorem AkS.bad (h : AkS w wk bx u x id D) (hx : bx = w.heap.size) {e : Int} (he : ackE D id = e) (hne : e ≠ 0) :
    AckP D id w (.returned (.tuple #[.agg #[.slice none 0 0, .slice none 0 0], caseV zeroK, .int .i64 e])) (errW wk bx) := by
  subst hx
  have q : ∀ {w' : World} (p : Addr) (y : Value), Below w.heap.size w w' → w.heap.size ≤ p.block → Below w.heap.size w (w'.setCell p y) := fun p y hb hp => below_set hb p y hp
  refine ⟨.slice none 0 0, .slice none 0 0, ?_, ?_, q _ _ (q _ _ (q _ _ (q _ _ (q _ _ (q _ _ (q _ _ h.b ?_) ?_) ?_) ?_) ?_) ?_) ?_⟩
  · unfold ackK; rw [he, if_neg hne]
  · unfold ackD; rw [he, if_neg hne]; exact DeskO.zero _ _
  all_goals (simp only; omega)
end
def gdW (wk : World) (bx : Nat) (u v : Value) (c : Int) (r o : ByteArray) (t : Int) : World :=
  (((((((wk.setCell ⟨bx + 1 + 1, 0, none⟩ u).setCell ⟨bx + 1 + 1, 1, none⟩ v).setCell ⟨bx + 1 + 1 + 1, 0, none⟩ (.int .i64 c)).setCell ⟨bx + 1 + 1 + 1, 1, none⟩ (.string r)).setCell ⟨bx + 1 + 1 + 1, 2, none⟩ (.string o)).setCell ⟨bx + 1 + 1 + 1, 3, none⟩ (.int .i64 t)).setCell ⟨bx + 1 + 1 + 1, 4, none⟩ (.bool true))
theorem gdW_desk {wk : World} {bx : Nat} {a b u v : Value} {c : Int} {r o : ByteArray} {t : Int} (h : DeskCell wk (bx + 1 + 1) a b) : DeskCell (gdW wk bx u v c r o t) (bx + 1 + 1) u v :=
  (((((((h.set0 _).set1 _).other ⟨bx + 1 + 1 + 1, 0, none⟩ _ (by show bx + 1 + 1 ≠ bx + 1 + 1 + 1; omega)).other ⟨bx + 1 + 1 + 1, 1, none⟩ _ (by show bx + 1 + 1 ≠ bx + 1 + 1 + 1; omega)).other ⟨bx + 1 + 1 + 1, 2, none⟩ _ (by show bx + 1 + 1 ≠ bx + 1 + 1 + 1; omega)).other ⟨bx + 1 + 1 + 1, 3, none⟩ _ (by show bx + 1 + 1 ≠ bx + 1 + 1 + 1; omega)).other ⟨bx + 1 + 1 + 1, 4, none⟩ _ (by show bx + 1 + 1 ≠ bx + 1 + 1 + 1; omega))
theorem gdW_case {wk : World} {bx : Nat} {d : CaseD} {u v : Value} {c : Int} {r o : ByteArray} {t : Int} (h : CaseC wk (bx + 1 + 1 + 1) d) : CaseC (gdW wk bx u v c r o t) (bx + 1 + 1 + 1) ⟨c, r, o, t, true⟩ :=
  ((h.other ⟨bx + 1 + 1, 0, none⟩ _ (by show bx + 1 + 1 + 1 ≠ bx + 1 + 1; omega)).other ⟨bx + 1 + 1, 1, none⟩ _ (by show bx + 1 + 1 + 1 ≠ bx + 1 + 1; omega)).set5 c r o t true
theorem gdW_below {w wk : World} {bx : Nat} {u v : Value} {c : Int} {r o : ByteArray} {t : Int} (h : Below bx w wk) : Below bx w (gdW wk bx u v c r o t) := by
  have q : ∀ {w' : World} (p : Addr) (y : Value), Below bx w w' → bx ≤ p.block → Below bx w (w'.setCell p y) := fun p y hb hp => below_set hb p y hp
  refine q _ _ (q _ _ (q _ _ (q _ _ (q _ _ (q _ _ (q _ _ h ?_) ?_) ?_) ?_) ?_) ?_) ?_
  all_goals (simp only; omega)
theorem gdW_desko {wk : World} {bx : Nat} {u v u' v' : Value} {D : DeskD} {c : Int} {r o : ByteArray} {t : Int} (h : DeskO wk (bx + 1 + 1 + 1 + 1) u' v' D) : DeskO (gdW wk bx u v c r o t) (bx + 1 + 1 + 1 + 1) u' v' D := by
  have qo : ∀ {w' : World} (p : Addr) (y : Value), DeskO w' (bx + 1 + 1 + 1 + 1) u' v' D → p.block < bx + 1 + 1 + 1 + 1 → DeskO (w'.setCell p y) (bx + 1 + 1 + 1 + 1) u' v' D := fun p y h hp => h.set p y hp
  refine qo _ _ (qo _ _ (qo _ _ (qo _ _ (qo _ _ (qo _ _ (qo _ _ h ?_) ?_) ?_) ?_) ?_) ?_) ?_
  all_goals (simp only; omega)
theorem gen_fin {K : Act → World → Prop} {Q : Exit → Act → World → Prop} {x : Exit} {a : Act} {w : World} (h : ∀ w1, w1 = w → Exit.then K Q x a w1) : Exit.then K Q x a w := h w rfl
set_option maxRecDepth 100000 in
set_option maxHeartbeats 4000000 in
theorem ack_any {P : Nat → Prop} (v : Value) (id : Int) (D : DeskD) (w : World) (hD : DeskR P w v D) (sD : DeskS D) :
    Calls Try.prog 14 #[v, .int .i64 id] w (AckP D id w) := by
  have HD := Lib.hid hD
  have HS := Lib.hid sD
  obtain ⟨A0, ca0, B0, cb0, rfl, h1, h2⟩ := hD
  clear h1 h2 sD
  go_enter Try.func14, Try.ntmps14
  go_wp2_with fail
  refine gen_calls fun w1 hw1 => ?_
  have HB1 := Lib.hid (show Below w.heap.size w w1 from by rw [hw1]; exact bl_alloc _ (bl_alloc _ (bl_alloc _ (below_alloc _ _))))
  have D1 := Lib.hid (show DeskCell w1 w.heap.size (.slice A0 D.cs.length ca0) (.slice B0 D.ks.length cb0) from by rw [hw1]; exact (((DeskCell.new _ _ rfl).below (below_alloc _ _)).below (below_alloc _ _)).below (below_alloc _ _))
  have I1 := Lib.hid (show BoxE w1 (w.heap.size + 1) (.int .i64 id) 3 from by rw [hw1]; exact ((BoxE.new _ _ (by simp)).below (below_alloc _ _)).below (below_alloc _ _))
  have Z1 := Lib.hid (show DeskCell w1 (w.heap.size + 1 + 1) (.slice none 0 0) (.slice none 0 0) from by rw [hw1]; exact (DeskCell.new _ _ (by simp)).below (below_alloc _ _))
  have C1 := Lib.hid (show CaseC w1 (w.heap.size + 1 + 1 + 1) zeroK from by rw [hw1]; exact CaseC.new zeroK (by simp))
  clear hw1
  generalize hbx : w.heap.size = bx at *
  have HBX := Lib.hid hbx
  refine (copied_any _ D w1 (HD.out.below (show Below w.heap.size w w1 from by rw [hbx]; exact HB1.out)) HS.out).mono ?_
  rintro e w2 ⟨u, x, rfl, hO, hb2⟩
  clear hbx
  obtain ⟨A, ca, B, cb, rfl, rfl⟩ := hO.forms
  have HO := Lib.hid hO
  have d2 := D1.out.below hb2
  have HD2 := Lib.hid d2
  have HI2 := Lib.hid (I1.out.below hb2)
  have HZ2 := Lib.hid (Z1.out.below hb2)
  have HC2 := Lib.hid (C1.out.below hb2)
  have HB2 := Lib.hid (HB1.out.trans (hb2.mono (by have := D1.out.lt; omega)))
  have c0 := d2.c0
  have c1 := d2.c1
  have f0 := d2.fz 0
  have f1 := d2.fz 1
  have l0 := d2.lt
  have z1 := C1.out.lt
  clear hO d2 hb2
  go_wp2_with fail
  refine gen_calls fun w3 hw3 => ?_
  have HG := Lib.hid (show AkS w w3 bx (.slice A D.cs.length ca) (.slice B D.ks.length cb) id D from by
    rw [hw3]
    exact ⟨below_set (below_set HB2.out ⟨bx, 0, none⟩ _ (Nat.le_refl _)) ⟨bx, 1, none⟩ _ (Nat.le_refl _), (HD2.out.set0 _).set1 _,
      (Below.heap_setCell _ _ _ _ (by show bx + 1 ≠ bx; omega)).trans ((Below.heap_setCell _ _ _ _ (by show bx + 1 ≠ bx; omega)).trans HI2.out),
      (HZ2.out.other ⟨bx, 0, none⟩ _ (by show bx + 1 + 1 ≠ bx; omega)).other ⟨bx, 1, none⟩ _ (by show bx + 1 + 1 ≠ bx; omega),
      (Below.heap_setCell _ _ _ _ (by show bx + 1 + 1 + 1 ≠ bx; omega)).trans ((Below.heap_setCell _ _ _ _ (by show bx + 1 + 1 + 1 ≠ bx; omega)).trans HC2.out),
      ((HO.out.set ⟨bx, 0, none⟩ _ (by show bx < _; omega)).set ⟨bx, 1, none⟩ _ (by show bx < _; omega)).lower (by omega)⟩)
  clear hw3 c0 c1 f0 f1 l0 z1
  refine ret_below (check_any _ D w3 HG.out.o.read HS.out) fun w4 hb4 => ?_
  replace HG := Lib.hid (HG.out.below hb4)
  clear hb4
  have c0 := HG.out.d.c0
  have c1 := HG.out.d.c1
  have i0 := HG.out.i.cell
  have z0 := HG.out.z.c0
  have z1 := HG.out.z.c1
  have g0 := HG.out.z.fz 0
  have g1 := HG.out.z.fz 1
  have k0 := HG.out.c.c0
  have k1 := HG.out.c.c1
  have k2 := HG.out.c.c2
  have k3 := HG.out.c.c3
  have k4 := HG.out.c.c4
  have kf0 := HG.out.c.fz 0
  have kf1 := HG.out.c.fz 1
  have kf2 := HG.out.c.fz 2
  have kf3 := HG.out.c.fz 3
  have kf4 := HG.out.c.fz 4
  have l0 := HG.out.d.lt
  have l1 := HG.out.i.lt
  have l2 := HG.out.z.lt
  have l3 := HG.out.c.lt
  by_cases hc : chkB D = true
  · have hv : chkE D = 0 := by unfold chkE; rw [if_pos hc]
    rw [hv]
    have HV := Lib.hid hv
    clear hc hv
    go_wp2_with fail
    refine ret_below (find_any _ id D w4 HG.out.o.read (by have := HS.out.lc; omega)) fun w5 hb5 => ?_
    replace HG := Lib.hid (HG.out.below hb5)
    clear hb5 c0 c1 i0 z0 z1 g0 g1 k0 k1 k2 k3 k4 kf0 kf1 kf2 kf3 kf4 l0 l1 l2 l3
    have c0 := HG.out.d.c0
    have c1 := HG.out.d.c1
    have i0 := HG.out.i.cell
    have z0 := HG.out.z.c0
    have z1 := HG.out.z.c1
    have g0 := HG.out.z.fz 0
    have g1 := HG.out.z.fz 1
    have k0 := HG.out.c.c0
    have k1 := HG.out.c.c1
    have k2 := HG.out.c.c2
    have k3 := HG.out.c.c3
    have k4 := HG.out.c.c4
    have kf0 := HG.out.c.fz 0
    have kf1 := HG.out.c.fz 1
    have kf2 := HG.out.c.fz 2
    have kf3 := HG.out.c.fz 3
    have kf4 := HG.out.c.fz 4
    have l0 := HG.out.d.lt
    have l1 := HG.out.i.lt
    have l2 := HG.out.z.lt
    have l3 := HG.out.c.lt
    by_cases hf : fndC D.cs id < 0
    · have HE := Lib.hid (show ackE D id = 41 from by unfold ackE; rw [if_neg (by rw [HV.out]; decide), if_pos hf])
      generalize fndC D.cs id = fd at *
      go_wp2_with fail
      refine bodyPost_ret (results_deskcase rfl _ _ (bx + 1 + 1) (bx + 1 + 1 + 1) rfl rfl HG.out.desk HG.out.case) rfl ?_
      exact HG.out.bad HBX.out.symm HE.out (by decide)
    · have HF := Lib.hid hf
      have HFE := Lib.hid (show ackE D id = if unI D id < 0 then 5 else 0 from by unfold ackE; rw [if_neg (by rw [HV.out]; decide), if_neg hf])
      generalize fndC D.cs id = fd at *
      go_wp2_with fail
      have HKP := Lib.hid (show ElP EK (fun b => bx + 1 + 1 + 1 + 1 ≤ b) w5 B cb D.ks from by
        obtain ⟨A', c', e, hk⟩ := HG.out.o.ks.toP
        injection e with e1 e2 e3
        subst e1 e3
        exact hk.mono (fun b _ h => h.2))
      refine ret_below (idxK2_any 33 (.pointer (some ⟨bx + 1, 0, none⟩)) (unC id) B D.ks cb w5 HKP.out (by have := HS.out.lk; omega) enter_ack1 (fun W d hb => ack1_any (bx + 1) id W d (Nat.lt_of_lt_of_le l1 hb.size) ((hb.cell l1).trans i0))) fun w6 hb6 => ?_
      replace HG := Lib.hid (HG.out.below hb6)
      clear hb6 c0 c1 i0 z0 z1 g0 g1 k0 k1 k2 k3 k4 kf0 kf1 kf2 kf3 kf4 l0 l1 l2 l3
      have c0 := HG.out.d.c0
      have c1 := HG.out.d.c1
      have i0 := HG.out.i.cell
      have z0 := HG.out.z.c0
      have z1 := HG.out.z.c1
      have g0 := HG.out.z.fz 0
      have g1 := HG.out.z.fz 1
      have k0 := HG.out.c.c0
      have k1 := HG.out.c.c1
      have k2 := HG.out.c.c2
      have k3 := HG.out.c.c3
      have k4 := HG.out.c.c4
      have kf0 := HG.out.c.fz 0
      have kf1 := HG.out.c.fz 1
      have kf2 := HG.out.c.fz 2
      have kf3 := HG.out.c.fz 3
      have kf4 := HG.out.c.fz 4
      have l0 := HG.out.d.lt
      have l1 := HG.out.i.lt
      have l2 := HG.out.z.lt
      have l3 := HG.out.c.lt
      have HUE := Lib.hid (show ixK (unC id) D.ks = unI D id from rfl)
      by_cases hu : ixK (unC id) D.ks < 0
      · have HE := Lib.hid (show ackE D id = 5 from by rw [HFE.out, ← HUE.out, if_pos hu])
        generalize ixK (unC id) D.ks = ui at *
        go_wp2_with fail
        refine bodyPost_ret (results_deskcase rfl _ _ (bx + 1 + 1) (bx + 1 + 1 + 1) rfl rfl HG.out.desk HG.out.case) rfl ?_
        exact HG.out.bad HBX.out.symm HE.out (by decide)
      · have HE := Lib.hid (show ackE D id = 0 from by rw [HFE.out, ← HUE.out, if_neg hu])
        obtain ⟨m, hm, hml, hmu, -⟩ : ∃ k : Nat, ixK (unC id) D.ks = k ∧ k < D.ks.length ∧ unC id (kAt D.ks k) = true ∧ ∀ j, j < k → unC id (kAt D.ks j) = false := by
          rcases ixCs_cases (unC id) D.ks with ⟨h0, -⟩ | h0
          · omega
          · exact h0
        have HM := Lib.hid (show unI D id = (m : Int) from by rw [← HUE.out]; exact hm)
        rw [hm]
        have u0 : ¬ (m : Int) < 0 := by omega
        have u1 : (0 : Int) ≤ (m : Int) := by omega
        have u2 : (m : Int) < (D.ks.length : Int) := by omega
        clear hu hm hmu
        have HOK := Lib.hid HG.out.o.ks
        obtain ⟨g, rfl⟩ : ∃ g, B = some ⟨g, 0, none⟩ := by
          rcases HOK.out.2 with ⟨h0, h1⟩ | ⟨g, cap, cur, hv, -⟩
          · injection h0 with e1 e2
            omega
          · injection hv with e1
            exact ⟨g, e1⟩
        obtain ⟨hgl, hgb, hgc, hgf⟩ := HOK.out.slot (kAt_get hml)
        have q4 := hgc 4 (by show 4 < 5; omega)
        have q4' : w6.cell? ⟨g, m * 5 + 4, none⟩ = some (.bool (kAt D.ks m).s) := q4
        have qf := hgf (m * 5 + 4)
        have HML := Lib.hid hml
        have HGF := Lib.hid hgf
        clear hgc q4 hgf hml
        go_wp2_with fail
        refine gen_world fun w7 hw7 => ?_
        have HO7 := Lib.hid (show ElOwn EK 37 w7 (bx + 1 + 1 + 1 + 1) (.slice (some ⟨g, 0, none⟩) D.ks.length cb) (D.ks.set m (seenK (kAt D.ks m))) from by rw [hw7]; exact HOK.out.set1 (j := 4) (kAt_get HML.out) (by show 4 < 5; omega) rfl)
        have HG7 := Lib.hid (show ∀ b, b ≠ g → w7.heap[b]? = w6.heap[b]? from by rw [hw7]; exact fun b hb => Below.heap_setCell w6 ⟨g, m * 5 + 4, none⟩ _ b hb)
        have hs7 : w7.heap.size = w6.heap.size := by rw [hw7]; simp [World.setCell]
        have hb7 := Lib.hid (show Below bx w w7 from by rw [hw7]; exact below_set HG.out.b ⟨g, m * 5 + 4, none⟩ _ (by show bx ≤ g; omega))
        clear hw7
        clear c0 c1 i0 z0 z1 g0 g1 k0 k1 k2 k3 k4 kf0 kf1 kf2 kf3 kf4 l0 l1 l2 l3 q4' qf
        have D7 := Lib.hid (HG.out.d.keep (HG7.out bx (by omega)))
        have Z7 := Lib.hid (HG.out.z.keep (HG7.out (bx + 1 + 1) (by omega)))
        have C7 := Lib.hid (show CaseC w7 (bx + 1 + 1 + 1) zeroK from (HG7.out _ (by omega)).trans HG.out.c)
        have c0 := D7.out.c0
        have c1 := D7.out.c1
        have l0 := D7.out.lt
        have z0 := Z7.out.c0
        have z1 := Z7.out.c1
        have g0 := Z7.out.fz 0
        have g1 := Z7.out.fz 1
        have l2 := Z7.out.lt
        have k0 := C7.out.c0
        have k1 := C7.out.c1
        have k2 := C7.out.c2
        have k3 := C7.out.c3
        have k4 := C7.out.c4
        have kf0 := C7.out.fz 0
        have kf1 := C7.out.fz 1
        have kf2 := C7.out.fz 2
        have kf3 := C7.out.fz 3
        have kf4 := C7.out.fz 4
        have l3 := C7.out.lt
        have hl7 : (D.ks.set m (seenK (kAt D.ks m)))[m]? = some (seenK (kAt D.ks m)) := by rw [List.getElem?_set_self HML.out]
        obtain ⟨hgl7, -, hgc, -⟩ := HO7.out.slot hl7
        have q0 : w7.cell? ⟨g, m * 5, none⟩ = some (.int .i64 (kAt D.ks m).c) := hgc 0 (by show 0 < 5; omega)
        have q1 : w7.cell? ⟨g, m * 5 + 1, none⟩ = some (.string (kAt D.ks m).r) := hgc 1 (by show 1 < 5; omega)
        have q2 : w7.cell? ⟨g, m * 5 + 2, none⟩ = some (.string (kAt D.ks m).o) := hgc 2 (by show 2 < 5; omega)
        have q3 : w7.cell? ⟨g, m * 5 + 3, none⟩ = some (.int .i64 (kAt D.ks m).t) := hgc 3 (by show 3 < 5; omega)
        have q4 : w7.cell? ⟨g, m * 5 + 4, none⟩ = some (.bool true) := hgc 4 (by show 4 < 5; omega)
        have HKM := Lib.hid (show ackK D id = seenK (kAt D.ks m) from by unfold ackK; rw [HE.out, if_pos rfl, HM.out]; rfl)
        have HKD := Lib.hid (show ackD D id = ⟨D.cs, D.ks.set m (seenK (kAt D.ks m))⟩ from by unfold ackD; rw [HE.out, if_pos rfl, HM.out]; rfl)
        clear hl7 hgc
        generalize kAt D.ks m = x at *
        have HAP := Lib.hid (show AckP D id w (.returned (.tuple #[.agg #[.slice A D.cs.length ca, .slice (some ⟨g, 0, none⟩) D.ks.length cb], caseV ⟨x.c, x.r, x.o, x.t, true⟩, .int .i64 0])) (gdW w7 bx (.slice A D.cs.length ca) (.slice (some ⟨g, 0, none⟩) D.ks.length cb) x.c x.r x.o x.t).drew from by
          refine ⟨.slice A D.cs.length ca, .slice (some ⟨g, 0, none⟩) D.ks.length cb, ?_, ?_, ?_⟩
          · rw [HKM.out, HE.out]; rfl
          · rw [HKD.out, HBX.out]; exact ((gdW_desko (HG.out.o.turn HO7.out hs7 HG7.out)).lower (by omega)).below (Below.refl _ _).drew
          · rw [HBX.out]; exact Below.drew (gdW_below hb7.out))
        have HDK := Lib.hid (show DeskCell (gdW w7 bx (.slice A D.cs.length ca) (.slice (some ⟨g, 0, none⟩) D.ks.length cb) x.c x.r x.o x.t).drew (bx + 1 + 1) (.slice A D.cs.length ca) (.slice (some ⟨g, 0, none⟩) D.ks.length cb) from (gdW_desk Z7.out).below (Below.drew (Below.refl _ _)))
        have HCK := Lib.hid (show CaseC (gdW w7 bx (.slice A D.cs.length ca) (.slice (some ⟨g, 0, none⟩) D.ks.length cb) x.c x.r x.o x.t).drew (bx + 1 + 1 + 1) ⟨x.c, x.r, x.o, x.t, true⟩ from (gdW_case C7.out).below (Below.drew (Below.refl _ _)))
        go_region
        refine gen_fin fun wf hwf => ?_
        replace hwf : wf = (gdW w7 bx (.slice A D.cs.length ca) (.slice (some ⟨g, 0, none⟩) D.ks.length cb) x.c x.r x.o x.t).drew := hwf
        rw [← hwf] at HAP HDK HCK
        clear hwf
        go_wp2_with fail
        refine bodyPost_ret (results_deskcase rfl _ _ (bx + 1 + 1) (bx + 1 + 1 + 1) rfl rfl HDK.out HCK.out) rfl ?_
        exact HAP.out
  · have hv : chkE D = 1 := by unfold chkE; rw [if_neg hc]
    rw [hv]
    have HE := Lib.hid (show ackE D id = 1 from by unfold ackE; rw [hv]; rfl)
    clear hc hv
    go_wp2_with fail
    refine bodyPost_ret (results_deskcase rfl _ _ (bx + 1 + 1) (bx + 1 + 1 + 1) rfl rfl HG.out.desk HG.out.case) rfl ?_
    exact HG.out.bad HBX.out.symm HE.out (by decide)
end Go.Proofs.Ytjckpammcgeloaa
namespace Go.Proofs.Ytjckpammcgeloaa
open Go.RowKit

theorem ld_desk {w : World} {x : Nat} {u v : Value} (h : DeskCell w x u v) : (Instr.loadAt 30 (.pointer (some ⟨x, 0, none⟩))).run Try.prog w = .ok (.agg #[u, v]) w := by
  have h0 := h.c0
  have h1 := h.c1
  go_simp
theorem al_desk (w : World) : (Instr.alloc 30 true (.tuple #[])).run Try.prog w = .ok (.pointer (some ⟨w.heap.size, 0, none⟩)) (w.alloc (.cells #[.slice none 0 0, .slice none 0 0] 30)) := by
  go_simp
theorem st_desk {w : World} {x : Nat} {u v : Value} (h : DeskCell w x u v) (A B : Option Addr) (n m c d : Nat) : (Instr.storeAt 30 (.pointer (some ⟨x, 0, none⟩)) (.agg #[.slice A n c, .slice B m d])).run Try.prog w = .ok () ((w.setCell ⟨x, 0, none⟩ (.slice A n c)).setCell ⟨x, 1, none⟩ (.slice B m d)) := by
  have h0 := h.c0
  have h1 := h.c1
  have f0 := h.fz 0
  have f1 := h.fz 1
  go_simp
theorem max_run (w : World) (a b : Int) (t : TypeId) : (Builtin.max_ #[3, 3] t #[.int .i64 a, .int .i64 b]).run Try.prog w = .ok (.int .i64 (mxI a b)) w := by
  unfold mxI Builtin.max_
  by_cases h : a < b
  · rw [if_pos h]
    simp [Builtin.max2]
    omega
  · rw [if_neg h]
    simp [Builtin.max2]
    omega
theorem G_bmax {P : Program} {ops : Array Oper} {o : Oper} {a : Act} {K : Act → World → Prop} {Q : Exit → Act → World → Prop} {E : Prop} {w w' : World} (hgd : o.guard = none) (x y : Operand) (t s : TypeId) (ho : o.op = .call { callee := .builtin .max, args := #[x, y], argTypes := #[t, s] }) {v : Value} (h : (Builtin.max_ #[t, s] o.type #[a.eval x, a.eval y]).run P w = .ok v w') (hK : K (a.put o.dst v) w') :
    if Region.wanted o (yielded ops a.tmps) = true then Oper.wp P o a w K Q else E := by
  refine J_val hgd (v := v) (w' := w') ?_ hK
  simp only [execOp, ho, resolve, invoke, builtin, Sem.run_bind, Sem.run_pure, Result.andThen_ok, List.map_toArray, List.map_cons, List.map_nil, h]
/-- The region under way: c the call, m its value moved, e the desk taken out of it, a the variable made, s the store. -/
structure DvJ (W0 : World) (ro : Option Nat) (c m e a s : Nat) (F : Value → Value → Value) (D : DeskD) (V : Nat → Value) (L : Nat → Bool) (w : World) : Prop where
  b : W0.grownBy w ro
  lo : ∀ D, ro = some D → D < W0.heap.size
  em : L m = true → L c = true ∧ V m = V c
  ee : L e = true → L m = true ∧ ∀ u x, V m = F u x → V e = .agg #[u, x]
  es : L s = true → L e = true ∧ L a = true
  al : L a = true → ∃ nb, V a = .pointer (some ⟨nb, 0, none⟩) ∧ W0.heap.size ≤ nb ∧ nb < w.heap.size ∧ (L s = false → DeskCell w nb (.slice none 0 0) (.slice none 0 0)) ∧ (L s = true → ∃ u x, V c = F u x ∧ DeskCell w nb u x ∧ DeskO w W0.heap.size u x D)
  dk : L c = true → L s = false → ∃ wX B u x, V c = F u x ∧ DeskO wX B u x D ∧ Below wX.heap.size wX w ∧ W0.heap.size ≤ B ∧ (L a = true → ∃ nb, V a = .pointer (some ⟨nb, 0, none⟩) ∧ (nb < B ∨ wX.heap.size ≤ nb))
section
variable {W0 w w' : World} {ro : Option Nat} {c m e a s : Nat} {F : Value → Value → Value} {D : DeskD} {V : Nat → Value} {L : Nat → Bool}
theorem DvJ.start (hro : ∀ D, ro = some D → D < W0.heap.size) (V : Nat → Value) : DvJ W0 ro c m e a s F D V (fun _ => false) W0.drew :=
  ⟨grown_of_below (Below.drew (Below.refl _ _)), hro, fun h => (by cases h), fun h => (by cases h), fun h => (by cases h), fun h => (by cases h), fun h => (by cases h)⟩
/-- Any other operation. -/
theorem DvJ.mv (h : DvJ W0 ro c m e a s F D V L w) (i : Nat) (hi : c ≠ i ∧ m ≠ i ∧ e ≠ i ∧ a ≠ i ∧ s ≠ i) {v : Value} (hb : Below w.heap.size w w') : DvJ W0 ro c m e a s F D (updV V i v) (upd L i) w' := by
  obtain ⟨h1, h2, h3, h4, h5⟩ := hi
  refine ⟨grown_trans h.b (grown_of_below hb), h.lo, ?_, ?_, ?_, ?_, ?_⟩
  · rw [upd_other _ h2, upd_other _ h1, updV_other _ _ h2, updV_other _ _ h1]; exact h.em
  · rw [upd_other _ h3, upd_other _ h2, updV_other _ _ h2, updV_other _ _ h3]; exact h.ee
  · rw [upd_other _ h5, upd_other _ h3, upd_other _ h4]; exact h.es
  · rw [upd_other _ h4, upd_other _ h5, updV_other _ _ h4, updV_other _ _ h1]
    intro q
    obtain ⟨nb, q1, q2, q3, q4, q5⟩ := h.al q
    exact ⟨nb, q1, q2, Nat.lt_of_lt_of_le q3 hb.size, fun q => (q4 q).below hb, fun q => by
      obtain ⟨u, x, r1, r2, r3⟩ := q5 q
      exact ⟨u, x, r1, r2.below hb, r3.below hb⟩⟩
  · rw [upd_other _ h1, upd_other _ h5, updV_other _ _ h1, upd_other _ h4, updV_other _ _ h4]
    intro q q'
    obtain ⟨wX, B, u, x, r1, r2, r3, r4, r5⟩ := h.dk q q'
    exact ⟨wX, B, u, x, r1, r2, below_trans r3 (hb.mono (Nat.le_refl _)), r4, r5⟩
theorem DvJ.nos (h : DvJ W0 ro c m e a s F D V L w) {i : Nat} (hi : i = c ∨ i = m ∨ i = e ∨ i = a) (hL : L i = false) : L s = false := by
  cases q : L s with
  | false => rfl
  | true =>
    exfalso
    have h1 := h.es q
    have h2 := h.ee h1.1
    have h3 := h.em h2.1
    rcases hi with rfl | rfl | rfl | rfl
    · rw [hL] at h3; cases h3.1
    · rw [hL] at h2; cases h2.1
    · rw [hL] at h1; cases h1.1
    · rw [hL] at h1; cases h1.2
theorem DvJ.noc (h : DvJ W0 ro c m e a s F D V L w) (hL : L c = false) : L m = false ∧ L e = false := by
  have hm : L m = false := by
    cases q : L m with
    | false => rfl
    | true => have := (h.em q).1; rw [hL] at this; cases this
  refine ⟨hm, ?_⟩
  cases q : L e with
  | false => rfl
  | true => have := (h.ee q).1; rw [hm] at this; cases this
/-- Dice are thrown ahead of the call. -/
theorem DvJ.nx (h : DvJ W0 ro c m e a s F D V L w) (i : Nat) (hi : c ≠ i ∧ m ≠ i ∧ e ≠ i ∧ a ≠ i ∧ s ≠ i) (hL : L c = false) {v : Value} {d : Nat} (hro : ro = some d) (hg : w.grownBy w' (some d)) : DvJ W0 ro c m e a s F D (updV V i v) (upd L i) w' := by
  have hs := h.nos (.inl rfl) hL
  obtain ⟨hm, he⟩ := h.noc hL
  obtain ⟨h1, h2, h3, h4, h5⟩ := hi
  have hd := h.lo d hro
  subst hro
  refine ⟨grown_trans h.b hg, h.lo, ?_, ?_, ?_, ?_, ?_⟩
  · rw [upd_other _ h2, hm]; intro q; cases q
  · rw [upd_other _ h3, he]; intro q; cases q
  · rw [upd_other _ h5, hs]; intro q; cases q
  · rw [upd_other _ h4, upd_other _ h5, updV_other _ _ h4]
    intro q
    obtain ⟨nb, q1, q2, q3, q4, q5⟩ := h.al q
    exact ⟨nb, q1, q2, Nat.lt_of_lt_of_le q3 hg.size, fun q => (q4 q).keep (hg.block nb q3 (fun e => by injection e with e; omega)), fun q => by rw [hs] at q; cases q⟩
  · rw [upd_other _ h1, hL]; intro q; cases q
theorem DvJ.oc (h : DvJ W0 ro c m e a s F D V L w) (hn : c ≠ m ∧ c ≠ e ∧ c ≠ a ∧ c ≠ s) (hL : L c = false) {u x : Value} (hb : Below w.heap.size w w') (ho : DeskO w' w.heap.size u x D) : DvJ W0 ro c m e a s F D (updV V c (F u x)) (upd L c) w' := by
  have hs := h.nos (.inl rfl) hL
  obtain ⟨hm, he⟩ := h.noc hL
  obtain ⟨h2, h3, h4, h5⟩ := hn
  refine ⟨grown_trans h.b (grown_of_below hb), h.lo, ?_, ?_, ?_, ?_, ?_⟩
  · rw [upd_other _ h2.symm, hm]; intro q; cases q
  · rw [upd_other _ h3.symm, he]; intro q; cases q
  · rw [upd_other _ h5.symm, hs]; intro q; cases q
  · rw [upd_other _ h4.symm, upd_other _ h5.symm, updV_other _ _ h4.symm]
    intro q
    obtain ⟨nb, q1, q2, q3, q4, q5⟩ := h.al q
    exact ⟨nb, q1, q2, Nat.lt_of_lt_of_le q3 hb.size, fun q => (q4 q).below hb, fun q => by rw [hs] at q; cases q⟩
  · rw [upd_same, updV_same, upd_other _ h4.symm, updV_other _ _ h4.symm]
    intro _ _
    refine ⟨w', w.heap.size, u, x, rfl, ho, Below.refl _ _, h.b.size, fun q => ?_⟩
    obtain ⟨nb, q1, -, q3, -⟩ := h.al q
    exact ⟨nb, q1, .inl q3⟩
theorem DvJ.om (h : DvJ W0 ro c m e a s F D V L w) (hn : m ≠ c ∧ m ≠ e ∧ m ≠ a ∧ m ≠ s) (hL : L m = false) (hc : L c = true) {v : Value} (hv : v = V c) : DvJ W0 ro c m e a s F D (updV V m v) (upd L m) w := by
  have hs := h.nos (.inr (.inl rfl)) hL
  have he : L e = false := by
    cases q : L e with
    | false => rfl
    | true => have := (h.ee q).1; rw [hL] at this; cases this
  obtain ⟨h1, h3, h4, h5⟩ := hn
  refine ⟨h.b, h.lo, ?_, ?_, ?_, ?_, ?_⟩
  · rw [upd_other _ h1.symm, updV_same, updV_other _ _ h1.symm]; intro _; exact ⟨hc, hv⟩
  · rw [upd_other _ h3.symm, he]; intro q; cases q
  · rw [upd_other _ h5.symm, hs]; intro q; cases q
  · rw [upd_other _ h4.symm, upd_other _ h5.symm, updV_other _ _ h4.symm, updV_other _ _ h1.symm]; exact h.al
  · rw [upd_other _ h1.symm, upd_other _ h5.symm, updV_other _ _ h1.symm, upd_other _ h4.symm, updV_other _ _ h4.symm]; exact h.dk
theorem DvJ.oe (h : DvJ W0 ro c m e a s F D V L w) (hn : e ≠ c ∧ e ≠ m ∧ e ≠ a ∧ e ≠ s) (hL : L e = false) (hm : L m = true) {v : Value} (hv : ∀ u x, V m = F u x → v = .agg #[u, x]) : DvJ W0 ro c m e a s F D (updV V e v) (upd L e) w := by
  have hs := h.nos (.inr (.inr (.inl rfl))) hL
  obtain ⟨h1, h2, h4, h5⟩ := hn
  refine ⟨h.b, h.lo, ?_, ?_, ?_, ?_, ?_⟩
  · rw [upd_other _ h2.symm, upd_other _ h1.symm, updV_other _ _ h2.symm, updV_other _ _ h1.symm]; exact h.em
  · rw [upd_other _ h2.symm, updV_other _ _ h2.symm, updV_same]; intro _; exact ⟨hm, hv⟩
  · rw [upd_other _ h5.symm, hs]; intro q; cases q
  · rw [upd_other _ h4.symm, upd_other _ h5.symm, updV_other _ _ h4.symm, updV_other _ _ h1.symm]; exact h.al
  · rw [upd_other _ h1.symm, upd_other _ h5.symm, updV_other _ _ h1.symm, upd_other _ h4.symm, updV_other _ _ h4.symm]; exact h.dk
theorem DvJ.oa (h : DvJ W0 ro c m e a s F D V L w) (hn : a ≠ c ∧ a ≠ m ∧ a ≠ e ∧ a ≠ s) (hL : L a = false) : DvJ W0 ro c m e a s F D (updV V a (.pointer (some ⟨w.heap.size, 0, none⟩))) (upd L a) (w.alloc (.cells #[.slice none 0 0, .slice none 0 0] 30)) := by
  have hs := h.nos (.inr (.inr (.inr rfl))) hL
  have hb := below_alloc w (.cells #[.slice none 0 0, .slice none 0 0] 30)
  obtain ⟨h1, h2, h3, h5⟩ := hn
  refine ⟨grown_trans h.b (grown_of_below hb), h.lo, ?_, ?_, ?_, ?_, ?_⟩
  · rw [upd_other _ h2.symm, upd_other _ h1.symm, updV_other _ _ h2.symm, updV_other _ _ h1.symm]; exact h.em
  · rw [upd_other _ h3.symm, upd_other _ h2.symm, updV_other _ _ h2.symm, updV_other _ _ h3.symm]; exact h.ee
  · rw [upd_other _ h5.symm, hs]; intro q; cases q
  · rw [upd_same, upd_other _ h5.symm, updV_same]
    intro _
    exact ⟨_, rfl, h.b.size, by simp, fun _ => DeskCell.new _ _ rfl, fun q => by rw [hs] at q; cases q⟩
  · rw [upd_other _ h1.symm, upd_other _ h5.symm, updV_other _ _ h1.symm, upd_same, updV_same]
    intro q q'
    obtain ⟨wX, B, u, x, r1, r2, r3, r4, r5⟩ := h.dk q q'
    exact ⟨wX, B, u, x, r1, r2, below_trans r3 (hb.mono (Nat.le_refl _)), r4, fun _ => ⟨_, rfl, .inr r3.size⟩⟩
/-- The store: the world behind it. -/
theorem DvJ.os (h : DvJ W0 ro c m e a s F D V L w) (hn : s ≠ c ∧ s ≠ m ∧ s ≠ e ∧ s ≠ a) (hL : L s = false) (he : L e = true) (ha : L a = true) :
    ∃ w', (Instr.storeAt 30 (V a) (V e)).run Try.prog w = .ok () w' ∧ ∀ v, DvJ W0 ro c m e a s F D (updV V s v) (upd L s) w' := by
  obtain ⟨hm, hev⟩ := h.ee he
  obtain ⟨hc, hmv⟩ := h.em hm
  obtain ⟨wX, B, u, x, r1, r2, r3, r4, r5⟩ := h.dk hc hL
  obtain ⟨nb, q1, q2, q3, q4, -⟩ := h.al ha
  have e1 := hev u x (by rw [hmv, r1])
  have hcell := q4 hL
  obtain ⟨A, ca, B', cb, eu, ex⟩ := r2.forms
  rw [q1, e1, eu, ex]
  refine ⟨_, st_desk hcell A B' _ _ ca cb, fun v => ?_⟩
  rw [← eu, ← ex]
  have hB : nb < B ∨ wX.heap.size ≤ nb := by
    obtain ⟨nb', s1, s2⟩ := r5 ha
    rw [q1] at s1
    injection s1 with s1; injection s1 with s1; injection s1 with s1
    rw [s1]; exact s2
  have hDw : DeskO ((w.setCell ⟨nb, 0, none⟩ u).setCell ⟨nb, 1, none⟩ x) W0.heap.size u x D := by
    rcases hB with hB | hB
    · exact (((r2.below r3).set ⟨nb, 0, none⟩ u hB).set ⟨nb, 1, none⟩ x hB).lower r4
    · exact (r2.below (below_set (below_set r3 ⟨nb, 0, none⟩ u hB) ⟨nb, 1, none⟩ x hB)).lower r4
  have hgr : W0.grownBy ((w.setCell ⟨nb, 0, none⟩ u).setCell ⟨nb, 1, none⟩ x) ro := ⟨h.b.os, h.b.tape, h.b.output, by simpa [World.setCell] using h.b.size, fun k hk hne => by
    have hkn : k ≠ nb := by omega
    exact (Below.heap_setCell _ _ _ k hkn).trans ((Below.heap_setCell _ _ _ k hkn).trans (h.b.block k hk hne))⟩
  obtain ⟨h1, h2, h3, h4⟩ := hn
  refine ⟨hgr, h.lo, ?_, ?_, ?_, ?_, ?_⟩
  · rw [upd_other _ h2.symm, upd_other _ h1.symm, updV_other _ _ h2.symm, updV_other _ _ h1.symm]; exact h.em
  · rw [upd_other _ h3.symm, upd_other _ h2.symm, updV_other _ _ h2.symm, updV_other _ _ h3.symm]; exact h.ee
  · rw [upd_same, upd_other _ h3.symm, upd_other _ h4.symm]; intro _; exact ⟨he, ha⟩
  · rw [upd_other _ h4.symm, upd_same, updV_other _ _ h4.symm, updV_other _ _ h1.symm]
    intro _
    exact ⟨nb, q1, q2, by simpa [World.setCell] using q3, fun q => (by cases q), fun _ => ⟨u, x, r1, (hcell.set0 u).set1 x, hDw⟩⟩
  · rw [upd_same]; intro _ q; cases q
/-- Behind the region. -/
theorem DvJ.fin (h : DvJ W0 ro c m e a s F D V L w) (hs : L s = true) : ∃ nb u x, V a = .pointer (some ⟨nb, 0, none⟩) ∧ W0.heap.size ≤ nb ∧ nb < w.heap.size ∧ V c = F u x ∧ DeskCell w nb u x ∧ DeskO w W0.heap.size u x D := by
  obtain ⟨-, ha⟩ := h.es hs
  obtain ⟨nb, q1, q2, q3, -, q5⟩ := h.al ha
  obtain ⟨u, x, r1, r2, r3⟩ := q5 hs
  exact ⟨nb, u, x, q1, q2, q3, r1, r2, r3⟩
end
end Go.Proofs.Ytjckpammcgeloaa
