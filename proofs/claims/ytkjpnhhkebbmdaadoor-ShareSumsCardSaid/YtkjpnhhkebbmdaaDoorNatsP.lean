/-
  Lists of natural numbers in memory; lists that dice give; combinations of lists.
-/
import Derived.Test.YtkjpnhhkebbmdaaDoorFldP
namespace Go.Proofs.YtkjpnhhkebbmdaaDoor
open Go.RowKit

def nthN (L : List Nat) (k : Nat) : Nat := L.getD k 0
theorem nthN_eq {L : List Nat} {k : Nat} (h : k < L.length) : nthN L k = L[k] := by simp [nthN, List.getD_eq_getElem?_getD, h]
theorem nthN_ge {L : List Nat} {k : Nat} (h : L.length ≤ k) : nthN L k = 0 := by simp [nthN, List.getD_eq_getElem?_getD, h]
theorem nthN_mem {L : List Nat} {k : Nat} (h : k < L.length) : nthN L k ∈ L := by rw [nthN_eq h]; exact List.getElem_mem h
theorem nthN_lt {L : List Nat} {p : Nat} (hp : 1 ≤ p) (h : ∀ x ∈ L, x < p) (k : Nat) : nthN L k < p := by
  rcases Nat.lt_or_ge k L.length with hk | hk
  · exact h _ (nthN_mem hk)
  · rw [nthN_ge hk]; omega
theorem extN {L M : List Nat} (hl : L.length = M.length) (h : ∀ k, k < L.length → nthN L k = nthN M k) : L = M := by
  refine List.ext_getElem hl fun k h1 h2 => ?_
  rw [← nthN_eq h1, ← nthN_eq h2]; exact h k h1
def ofN (L : List Nat) : List Int := L.map fun n : Nat => (n : Int)
theorem len_ofN (L : List Nat) : (ofN L).length = L.length := by simp [ofN]
theorem nth_ofN (L : List Nat) (k : Nat) : nth (ofN L) k = (nthN L k : Nat) := by
  simp only [nth, nthN, ofN, List.getD_eq_getElem?_getD, List.getElem?_map]
  cases L[k]? <;> rfl
theorem ofN_inj {L M : List Nat} (h : ofN L = ofN M) : L = M := by
  refine extN (by rw [← len_ofN L, h, len_ofN]) fun k _ => ?_
  have := nth_ofN L k
  rw [h, nth_ofN] at this; omega

/-- The address A leads to the numbers L. -/
def NatsAt (w : World) (A : Option Addr) (L : List Nat) : Prop :=
  ∀ k, k < L.length → ∃ b off, A = some ⟨b, off, none⟩ ∧ b < w.heap.size ∧ w.cell? ⟨b, off + k, none⟩ = some (.int .i64 (nthN L k : Nat))
theorem NatsAt.nil (w : World) (A : Option Addr) : NatsAt w A [] := fun k h => absurd h (by simp)
theorem NatsAt.below {w w' : World} {A : Option Addr} {L : List Nat} (h : NatsAt w A L) (hb : Below w.heap.size w w') : NatsAt w' A L := fun k hk => by
  obtain ⟨b, off, hA, hlt, hc⟩ := h k hk
  exact ⟨b, off, hA, Nat.lt_of_lt_of_le hlt hb.size, (hb.cell hlt).trans hc⟩
theorem NatsAt.ints {w : World} {A : Option Addr} {L : List Nat} (h : NatsAt w A L) : IntsAt w A (ofN L) := fun k hk => by
  obtain ⟨b, off, hA, hlt, hc⟩ := h k (by rw [← len_ofN]; exact hk)
  exact ⟨b, off, hA, hlt, by rw [nth_ofN]; exact hc⟩
theorem NatsAt.grown {w w' : World} {A : Option Addr} {L : List Nat} {D : Nat} (h : NatsAt w A L) (hg : w.grownBy w' (some D)) (hD : ∀ b off, A = some ⟨b, off, none⟩ → b ≠ D) : NatsAt w' A L := fun k hk => by
  obtain ⟨b, off, hA, hlt, hc⟩ := h k hk
  exact ⟨b, off, hA, Nat.lt_of_lt_of_le hlt hg.size, (grown_cell hg b _ hlt (hD b off hA)).trans hc⟩
abbrev valsN (L : List Nat) : List Value := L.map fun n : Nat => Value.int .i64 (n : Int)
theorem NatsAt.of_own {w : World} {base : Nat} {v : Value} {L : List Nat} {n : Nat} (h : w.ownsRow base 3 1 v n (valsN L)) (hn : n = L.length) :
    ∃ A c, v = .slice A L.length c ∧ NatsAt w A L ∧ ∀ b off, A = some ⟨b, off, none⟩ → base ≤ b := by
  subst hn
  have hlt := h.lt
  rcases h.2 with ⟨rfl, h0⟩ | ⟨g, cap, cur, rfl, hg, hh, hnc, hcm, hcs, htk⟩
  · have : L = [] := List.eq_nil_of_length_eq_zero h0
    subst this
    exact ⟨none, 0, rfl, NatsAt.nil _ _, fun b off e => by cases e⟩
  · refine ⟨some ⟨g, 0, none⟩, cap, rfl, fun k hk => ⟨g, 0, rfl, ?_, ?_⟩, fun b off e => by injection e with e; injection e with e1; omega⟩
    · exact (hlt g rfl).2
    · have := h.cellAt (j := k) (by omega)
      rw [Nat.zero_add, this, List.getElem?_map, nthN_eq hk, List.getElem?_eq_getElem hk]
      rfl
/-- Block g is just the numbers cs. -/
def NatBlk (w : World) (g : Nat) (cs : List Nat) : Prop := w.heap[g]? = some (.cells (valsN cs).toArray 3 (0, 0))
theorem NatBlk.lt {w : World} {g : Nat} {cs : List Nat} (h : NatBlk w g cs) : g < w.heap.size := by
  rcases Nat.lt_or_ge g w.heap.size with hlt | hge
  · exact hlt
  · unfold NatBlk at h; rw [Array.getElem?_eq_none hge] at h; cases h
theorem NatBlk.cell {w : World} {g : Nat} {cs : List Nat} (h : NatBlk w g cs) (j : Nat) (hj : j < cs.length) : w.cell? ⟨g, j, none⟩ = some (.int .i64 (nthN cs j : Nat)) := by
  rw [cell_of_row w g j _ _ (0, 0) h, nthN_eq hj]; simp [hj]
theorem NatBlk.frozen {w : World} {g : Nat} {cs : List Nat} (h : NatBlk w g cs) (j : Nat) : w.frozen? ⟨g, j, none⟩ = false := by
  unfold NatBlk at h; simp [World.frozen?, h]
theorem NatBlk.set_ {w : World} {g : Nat} {cs : List Nat} (h : NatBlk w g cs) (j x : Nat) : NatBlk (w.setCell ⟨g, j, none⟩ (.int .i64 (x : Int))) g (cs.set j x) := by
  unfold NatBlk at h ⊢
  simp [World.setCell, Array.getElem?_modify, h, List.map_set]
theorem NatBlk.below {w w' : World} {g : Nat} {cs : List Nat} (h : NatBlk w g cs) (hb : Below w.heap.size w w') : NatBlk w' g cs := (hb.block g h.lt).trans h
theorem NatBlk.nats {w : World} {g : Nat} {cs : List Nat} (h : NatBlk w g cs) : NatsAt w (some ⟨g, 0, none⟩) cs := fun k hk =>
  ⟨g, 0, rfl, h.lt, by rw [Nat.zero_add]; exact h.cell k hk⟩
theorem NatBlk.own {w : World} {g base : Nat} {cs : List Nat} (h : NatBlk w g cs) (hb : base ≤ g) (hl : cs.length ≤ maxLen) : w.ownsRow base 3 1 (.slice (some ⟨g, 0, none⟩) cs.length cs.length) cs.length (valsN cs) :=
  ⟨by simp, .inr ⟨g, cs.length, _, rfl, hb, h, Nat.le_refl _, hl, by simp, by rw [Nat.mul_one]; exact List.take_of_length_le (by simp)⟩⟩
theorem valsN_zeros (n : Nat) : (List.replicate n (0 : Int)).map (Value.int .i64) = valsN (List.replicate n 0) := by simp [valsN]
theorem make_nats {ops : Array Oper} {rest : List Oper} {o : Oper} {a : Act} {Q : Exit → Act → World → Prop} (hg : o.guard = none) (l c : Operand) (hop : o.op = Op.makeSlice 22 l c)
    {w : World} {m : Int} (n : Nat) (hl : a.eval l = .int .i64 m) (hc : a.eval c = .int .i64 m) (hm : m = (n : Int)) (hn : n ≤ 1099511627776)
    (hK : ∀ w', NatBlk w' w.heap.size (List.replicate n 0) → Below w.heap.size w w' → wpList Tryd.prog ops Q rest (a.put o.dst (.slice (some ⟨w.heap.size, 0, none⟩) n n)) w') :
    wpList Tryd.prog ops Q (o :: rest) a w := by
  refine make_ints hg l c hop n hl hc hm hn fun w' hB hb => hK w' ?_ hb
  unfold NatBlk; rw [← valsN_zeros]; exact hB
theorem nthN_set_same (cs : List Nat) (j x : Nat) (h : j < cs.length) : nthN (cs.set j x) j = x := by rw [nthN_eq (by simpa using h)]; simp
theorem nthN_set_other (cs : List Nat) (j k x : Nat) (h : j ≠ k) : nthN (cs.set j x) k = nthN cs k := by simp [nthN, List.getD_eq_getElem?_getD, h]

/-! ### field.at, field.Linear -/
set_option maxHeartbeats 400000 in
theorem at_any (A : Option Addr) (L : List Nat) (c k : Nat) (w : World) (h : NatsAt w A L) (_ : L.length ≤ 1099511627776) (_ : k ≤ 1099511627776) :
    Calls Tryd.prog 73 #[.slice A L.length c, .int .i64 k] w (Ret (.int .i64 (nthN L k : Nat)) w) := by
  by_cases hlt : k < L.length
  · obtain ⟨b, off, rfl, _, hcell⟩ := h k hlt
    clear h
    go_enter Tryd.func73, Tryd.ntmps73
    go_wp2
    go_ret
    exact Ret.int rfl
  · have HZ := Lib.hid (nthN_ge (L := L) (k := k) (by omega))
    clear h
    go_enter Tryd.func73, Tryd.ntmps73
    go_wp2
    go_ret
    exact Ret.int (by rw [HZ.out]; rfl)

def linN (p : Nat) (A B : List Nat) (c : Nat) : List Nat := (List.range (max A.length B.length)).map fun i => fadd p (nthN A i) (fmul p c (nthN B i))
theorem linN_len (p : Nat) (A B : List Nat) (c : Nat) : (linN p A B c).length = max A.length B.length := by simp [linN]
theorem linN_nth {p : Nat} {A B : List Nat} {c i : Nat} (h : i < max A.length B.length) : nthN (linN p A B c) i = fadd p (nthN A i) (fmul p c (nthN B i)) := by
  rw [nthN_eq (by rw [linN_len]; exact h)]; simp [linN]
theorem linN_lt {p : Nat} (hp : 1 ≤ p) {A B : List Nat} {c : Nat} : ∀ x ∈ linN p A B c, x < p := by
  intro x hx
  obtain ⟨i, _, rfl⟩ := List.mem_map.1 hx
  exact fadd_lt hp _ _
/-- The call returns a new slice of just these numbers. -/
def NewNats (L : List Nat) (w : World) (e : Ending) (w' : World) : Prop :=
  ∃ g, e = .returned (.slice (some ⟨g, 0, none⟩) L.length L.length) ∧ w.heap.size ≤ g ∧ NatBlk w' g L ∧ Below w.heap.size w w'

set_option maxHeartbeats 800000 in
theorem linear_any (p : Nat) (A B : Option Addr) (L M : List Nat) (ca cb c : Nat) (w : World) (hp : 1 ≤ p) (hp2 : p ≤ 2147483648) (hA : NatsAt w A L) (hB : NatsAt w B M)
    (hL : ∀ x ∈ L, x < p) (hM : ∀ x ∈ M, x < p) (hc : c < p) (hl : L.length ≤ 1073741824) (hm : M.length ≤ 1073741824) :
    Calls Tryd.prog 60 #[.int .i64 p, .slice A L.length ca, .slice B M.length cb, .int .i64 c] w (NewNats (linN p L M c) w) := by
  have HA := Lib.hid hA
  have HB := Lib.hid hB
  have HL := Lib.hid (nthN_lt hp hL)
  have HM := Lib.hid (nthN_lt hp hM)
  clear hA hB hL hM
  obtain ⟨n, hn⟩ : ∃ n, n = max L.length M.length := ⟨_, rfl⟩
  have HN := Lib.hid hn
  have hn1 : L.length ≤ n := by omega
  have hn2 : M.length ≤ n := by omega
  have hn3 : n ≤ 1073741824 := by omega
  have HMX := Lib.hid (show max (L.length : Int) (M.length : Int) = (n : Int) by omega)
  clear hn
  go_enter Tryd.func60, Tryd.ntmps60
  go_wp2_with (at_make; refine make_nats rfl _ _ rfl n rfl rfl (by have := HN.out; omega) (by omega) ?_; intro w1 hB1 hb1)
  all_goals
    go_loopw [19] (fun i wr => ∃ (k : Nat) (cs : List Nat), k ≤ n ∧ i = .int .i64 k ∧ NatBlk wr w.heap.size cs ∧ cs.length = n ∧ (∀ j, j < k → nthN cs j = nthN (linN p L M c) j) ∧ Below w.heap.size w wr) (fun i _ => n - (intOf i).toNat)
    case atStart => exact ⟨0, _, by omega, rfl, hB1, by simp, fun j hj => absurd hj (by omega), hb1⟩
    case round =>
      obtain ⟨k, cs, hk, rfl, hBk, hcl, hcs, hbr⟩ := hrel
      have HCL := Lib.hid hcl
      have HCS := Lib.hid hcs
      clear hcl hcs
      by_cases hkn : k < n
      · have hcc := hBk.cell k (by rw [HCL.out]; exact hkn)
        have hff := hBk.frozen k
        have HV := Lib.hid (linN_nth (p := p) (A := L) (B := M) (c := c) (i := k) (by rw [← HN.out]; exact hkn))
        have HS := Lib.hid (hBk.set_ k (fadd p (nthN L k) (fmul p c (nthN M k))))
        have HBR := Lib.hid (hbr.setCell (p := ⟨w.heap.size, k, none⟩) (Nat.le_refl _) (.int .i64 ((fadd p (nthN L k) (fmul p c (nthN M k)) : Nat) : Int)))
        go_wp2_with fail
        refine ret_pure (at_any A L ca k _ (HA.out.below hbr) (by omega) (by omega)) ?_
        go_wp2_with fail
        refine ret_pure (at_any B M cb k _ (HB.out.below hbr) (by omega) (by omega)) ?_
        go_wp2_with fail
        refine ret_pure (mul_nat p c (nthN M k) _ hp hp2 hc (HM.out k)) ?_
        go_wp2_with fail
        refine ret_pure (add_nat p (nthN L k) (fmul p c (nthN M k)) _ hp hp2 (HL.out k) (fmul_lt hp _ _)) ?_
        go_wp2_with fail
        go_roundw
        case rel =>
          refine ⟨k + 1, cs.set k (fadd p (nthN L k) (fmul p c (nthN M k))), by omega, by go_num, HS.out, by rw [List.length_set]; exact HCL.out, fun j hj => ?_, HBR.out⟩
          by_cases hjk : k = j
          · subst hjk; rw [nthN_set_same _ _ _ (by rw [HCL.out]; exact hkn), HV.out]
          · rw [nthN_set_other _ _ _ _ hjk]; exact HCS.out j (by omega)
        case measure => simp [intOf]; omega
      · have HE := Lib.hid (show cs = linN p L M c from extN (by rw [HCL.out, linN_len]; exact HN.out) (fun j hj => HCS.out j (by rw [HCL.out] at hj; omega)))
        have HLN := Lib.hid (show (linN p L M c).length = n by rw [linN_len]; exact HN.out.symm)
        go_wp2_with fail
        go_ret
        refine ⟨w.heap.size, by rw [HLN.out]; rfl, Nat.le_refl _, by rw [← HE.out]; exact hBk, hbr⟩

/-! ### Lists that dice give -/
theorem grown_app {w w1 w2 : World} {D : Nat} {row : Option Nat} (h1 : w.grownBy w1 (some D)) (h2 : w1.grownBy w2 row) (hr : ∀ k, row = some k → w.heap.size ≤ k) : w.grownBy w2 (some D) :=
  ⟨h2.os.trans h1.os, h2.tape.trans h1.tape, h2.output.trans h1.output, Nat.le_trans h1.size h2.size, fun k hk hne =>
    (h2.block k (Nat.lt_of_lt_of_le hk h1.size) (fun e => by have := hr k e.symm; omega)).trans (h1.block k hk hne)⟩
/-- The call returns a new list of n elements; the dice go on. -/
def ElemsP (D n p : Nat) (w : World) (e : Ending) (w' : World) : Prop :=
  ∃ (v : Value) (L : List Nat) (R' : List Int), e = .returned v ∧ L.length = n ∧ (∀ x ∈ L, x < p) ∧ w'.ownsRow w.heap.size 3 1 v L.length (valsN L) ∧ DiceAt w' D R' ∧ w.grownBy w' (some D)

set_option maxHeartbeats 1000000 in
theorem elements_any (D : Nat) (R : List Int) (p n : Nat) (w : World) (h : DiceAt w D R) (hp : 1 ≤ p) (hp2 : p ≤ 2147483648) (hn : n ≤ 1048576) :
    Calls Tryd.prog 16 #[.pointer (some ⟨D, 0, none⟩), .int .i64 p, .int .i64 n] w (ElemsP D n p w) := by
  have hDlt := h.lt
  have hp1 : (1 : Int) ≤ p := by omega
  go_enter Tryd.func16, Tryd.ntmps16
  go_wp2_with fail
  go_loopw [7, 11] (fun l i wr => ∃ (k : Nat) (L : List Nat) (R' : List Int), k ≤ n ∧ i = .int .i64 k ∧ L.length = k ∧ (∀ x ∈ L, x < p) ∧ wr.ownsRow w.heap.size 3 1 l L.length (valsN L) ∧ DiceAt wr D R' ∧ w.grownBy wr (some D)) (fun _ i _ => n - (intOf i).toNat)
  case atStart => exact ⟨0, [], R, by omega, rfl, rfl, by simp, World.ownsRow_nil _ _ _ _, h, World.grownBy.refl _ _⟩
  case round =>
    obtain ⟨k, L, R', hk, rfl, hLk, hLp, hown, hD, hg⟩ := hrel
    have HLk := Lib.hid hLk
    have HLp := Lib.hid hLp
    have hLk1 : L.length ≤ k := by omega
    have hLk2 : k ≤ L.length := by omega
    have hgs := hg.size
    clear hLk hLp
    by_cases hlt : k < n
    · go_wp2_with fail
      refine (next_any D R' 1099511627776 _ hD (by omega)).mono ?_
      rintro e w1 ⟨rfl, hD1, hg1⟩
      obtain ⟨x1, x2⟩ := nextV_range R' 1099511627776 (by omega)
      generalize nextV R' 1099511627776 = x at *
      have hob : ∀ b, _root_.Go.Value.ownBlock _ = some b → w.heap.size ≤ b := fun b hb => (hown.lt b hb).1
      have hDw1 := hD1.lt
      have hown1 := hown.kept hg1 (.inr (fun e => by have := hob D e; omega))
      obtain ⟨A, cap, hv, hN, hAb⟩ := NatsAt.of_own hown1 rfl
      subst hv
      have hgw1 := grown_trans hg hg1
      have hz1 := hg1.size
      have hgs1 := hgw1.size
      clear hg hg1 hD hown
      have key : ∀ (y : Int), 0 ≤ y → Hid (∃ z : Nat, modI y (p : Int) = (z : Int) ∧ z < p) := fun y hy => by
        have hr := modI_range y p (by omega)
        exact ⟨(modI y p).toNat, by omega, by omega⟩
      by_cases hk0 : 0 < k
      · obtain ⟨bl, ol, rfl, hbl, hcl⟩ := hN (k - 1) (by omega)
        have hprev := nthN_lt hp HLp.out (k - 1)
        have g1 : decide (0 < (k : Int)) = true := decide_eq_true (by omega)
        by_cases hx0 : x = 0
        · subst hx0
          clear hN
          obtain ⟨z, hz, hzp⟩ := (key ((nthN L (k - 1) : Nat) * 3 + k) (by omega)).out
          have HZ := Lib.hid hz
          clear hz key
          go_wp2_with fail
          refine ret_pure (mod_any _ _ _ (by omega)) ?_
          rw [HZ.out]
          go_wp2_with (at_builtin; refine app_one rfl (.tmp 30) (.tmp 34) 22 rfl (base := w.heap.size) Tryd.underlying22 info_int rfl rfl hown1 rfl rfl (by simp only [maxLen]; omega) (by omega) hgs1 ?_; intro v4 w4 hown4 hg4 hb4)
          have HH := Lib.hid (And.intro (hD1.keep (w' := w4) (fun j hj => hg4.block j (by omega) (fun e => by have := hob _ e.symm; omega))) (grown_app hgw1 hg4 (fun j e => hob j e)))
          go_roundw
          case rel =>
            refine ⟨k + 1, L ++ [z], R'.tail, by omega, by go_num, by simp; exact HLk.out, fun y hy => ?_, ?_, HH.out.1, HH.out.2⟩
            · rcases List.mem_append.1 hy with hy | hy
              · exact HLp.out y hy
              · simp at hy; omega
            · simpa [valsN] using hown4
          case measure => simp [intOf]; omega
        · have g2 : ((x : Int) == 0) = false := by simp; omega
          clear hN hcl
          obtain ⟨z, hz, hzp⟩ := (key x x1).out
          have HZ := Lib.hid hz
          clear hz key
          go_wp2_with fail
          refine ret_pure (mod_any _ _ _ (by omega)) ?_
          rw [HZ.out]
          go_wp2_with (at_builtin; refine app_one rfl (.tmp 30) (.tmp 34) 22 rfl (base := w.heap.size) Tryd.underlying22 info_int rfl rfl hown1 rfl rfl (by simp only [maxLen]; omega) (by omega) hgs1 ?_; intro v4 w4 hown4 hg4 hb4)
          have HH := Lib.hid (And.intro (hD1.keep (w' := w4) (fun j hj => hg4.block j (by omega) (fun e => by have := hob _ e.symm; omega))) (grown_app hgw1 hg4 (fun j e => hob j e)))
          go_roundw
          case rel =>
            refine ⟨k + 1, L ++ [z], R'.tail, by omega, by go_num, by simp; exact HLk.out, fun y hy => ?_, ?_, HH.out.1, HH.out.2⟩
            · rcases List.mem_append.1 hy with hy | hy
              · exact HLp.out y hy
              · simp at hy; omega
            · simpa [valsN] using hown4
          case measure => simp [intOf]; omega
      · have g1 : decide (0 < (k : Int)) = false := decide_eq_false (by omega)
        clear hN
        obtain ⟨z, hz, hzp⟩ := (key x x1).out
        have HZ := Lib.hid hz
        clear hz key
        go_wp2_with fail
        refine ret_pure (mod_any _ _ _ (by omega)) ?_
        rw [HZ.out]
        go_wp2_with (at_builtin; refine app_one rfl (.tmp 30) (.tmp 34) 22 rfl (base := w.heap.size) Tryd.underlying22 info_int rfl rfl hown1 rfl rfl (by simp only [maxLen]; omega) (by omega) hgs1 ?_; intro v4 w4 hown4 hg4 hb4)
        have HH := Lib.hid (And.intro (hD1.keep (w' := w4) (fun j hj => hg4.block j (by omega) (fun e => by have := hob _ e.symm; omega))) (grown_app hgw1 hg4 (fun j e => hob j e)))
        go_roundw
        case rel =>
          refine ⟨k + 1, L ++ [z], R'.tail, by omega, by go_num, by simp; exact HLk.out, fun y hy => ?_, ?_, HH.out.1, HH.out.2⟩
          · rcases List.mem_append.1 hy with hy | hy
            · exact HLp.out y hy
            · simp at hy; omega
          · simpa [valsN] using hown4
        case measure => simp [intOf]; omega
    · go_wp2_with fail
      go_ret
      exact ⟨_, L, R', rfl, by have := HLk.out; omega, HLp.out, hown, hD, hg⟩
/-! ### Same -/
theorem same_nats (A A' : Option Addr) (L : List Nat) (c c' : Nat) (w : World) (hL : NatsAt w A L) (hM : NatsAt w A' L) (hl : L.length ≤ 1152921504606846976) :
    Calls Tryd.prog 28 #[.slice A L.length c, .slice A' L.length c'] w (Ret (.bool true) w) := by
  have h := same_refl A A' (ofN L) c c' w hL.ints hM.ints (by rw [len_ofN]; exact hl)
  rw [len_ofN] at h; exact h
end Go.Proofs.YtkjpnhhkebbmdaaDoor
