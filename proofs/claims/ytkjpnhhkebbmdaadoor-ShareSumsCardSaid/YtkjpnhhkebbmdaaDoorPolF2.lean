/-
  Polynomials: products, by the program and by the document.
-/
import Derived.Test.YtkjpnhhkebbmdaaDoorPolE2
import Derived.StillTailTactics
namespace Go.Proofs.YtkjpnhhkebbmdaaDoor
open Go.RowKit

/-- The product's coefficients while row i is being added. -/
def MidC (p : Nat) (a b : List Nat) (i k : Nat) (cs : List Nat) : Prop := ∀ m, m < a.length + b.length - 1 → nthN cs m = cfN p a b m (if m < i + k then i + 1 else i)
def RowC (p : Nat) (a b : List Nat) (i : Nat) (cs : List Nat) : Prop := ∀ m, m < a.length + b.length - 1 → nthN cs m = cfN p a b m i
theorem cfN_low {p : Nat} {a b : List Nat} {m i : Nat} (h : m < i) : cfN p a b m (i + 1) = cfN p a b m i := by simp only [cfN]; rw [if_neg (by omega)]
theorem cfN_high {p : Nat} (hp : 1 ≤ p) {a b : List Nat} {m i : Nat} (h : i + b.length ≤ m) : cfN p a b m (i + 1) = cfN p a b m i := by
  simp only [cfN]; split
  · rw [nthN_ge (L := b) (by omega)]
    have := cfN_lt hp a b m i
    unfold fadd fmul; rw [Nat.mul_zero, Nat.zero_mod, Nat.add_zero, Nat.mod_eq_of_lt this]
  · rfl
theorem cfN_mid {p : Nat} {a b : List Nat} {i k : Nat} : cfN p a b (i + k) (i + 1) = fadd p (cfN p a b (i + k) i) (fmul p (nthN a i) (nthN b k)) := by
  simp only [cfN]; rw [if_pos (by omega), Nat.add_sub_cancel_left]
theorem MidC.start {p : Nat} {a b : List Nat} {i : Nat} {cs : List Nat} (h : RowC p a b i cs) : MidC p a b i 0 cs := fun m hm => by
  rw [h m hm]; split
  · rw [cfN_low (by omega)]
  · rfl
theorem MidC.done {p : Nat} (hp : 1 ≤ p) {a b : List Nat} {i : Nat} {cs : List Nat} (h : MidC p a b i b.length cs) : RowC p a b (i + 1) cs := fun m hm => by
  rw [h m hm]; split
  · rfl
  · rw [cfN_high hp (by omega)]
theorem MidC.at_ {p : Nat} {a b : List Nat} {i k : Nat} {cs : List Nat} (h : MidC p a b i k cs) (hik : i + k < a.length + b.length - 1) : nthN cs (i + k) = cfN p a b (i + k) i := by
  rw [h _ hik, if_neg (by omega)]
theorem MidC.step {p : Nat} {a b : List Nat} {i k : Nat} {cs : List Nat} (h : MidC p a b i k cs) (hl : cs.length = a.length + b.length - 1) (hik : i + k < a.length + b.length - 1) :
    MidC p a b i (k + 1) (cs.set (i + k) (fadd p (nthN cs (i + k)) (fmul p (nthN a i) (nthN b k)))) := fun m hm => by
  by_cases hmk : i + k = m
  · subst hmk
    rw [nthN_set_same _ _ _ (by rw [hl]; exact hm), h.at_ hik, if_pos (by omega), cfN_mid]
  · rw [nthN_set_other _ _ _ _ hmk, h m hm]
    by_cases hm2 : m < i + k
    · rw [if_pos hm2, if_pos (by omega)]
    · rw [if_neg hm2, if_neg (by omega)]
theorem RowC.zero (p : Nat) (a b : List Nat) : RowC p a b 0 (List.replicate (a.length + b.length - 1) 0) := fun m _ => by
  rw [show cfN p a b m 0 = 0 from rfl]; simp only [nthN, List.getD_eq_getElem?_getD, List.getElem?_replicate]; split <;> rfl
theorem RowC.all {p : Nat} (hp : 1 ≤ p) {a b : List Nat} {cs : List Nat} (h : RowC p a b a.length cs) (hl : cs.length = a.length + b.length - 1) : cs = rowsN p a b :=
  extN (by rw [hl, rowsN_len]) fun m hm => by rw [h m (by rw [← hl]; exact hm), rowsN_nth p a b m hp]
theorem mulN_nil {p : Nat} {a b : List Nat} (h : a.length = 0 ∨ b.length = 0) : mulN p a b = [] := if_pos h
theorem mulN_sh {p : Nat} {a b : List Nat} (h : ¬ (a.length = 0 ∨ b.length = 0)) : mulN p a b = shN (rowsN p a b) := if_neg h
theorem RowC.lt {p : Nat} (hp : 1 ≤ p) {a b : List Nat} {i k : Nat} {cs : List Nat} (h : MidC p a b i k cs) (m : Nat) (hm : m < a.length + b.length - 1) : nthN cs m < p := by
  rw [h m hm]; exact cfN_lt hp _ _ _ _

set_option maxRecDepth 100000 in
set_option maxHeartbeats 1000000 in
theorem pmul_any (p : Nat) (A B : Option Addr) (L M : List Nat) (ca cb : Nat) (w : World) (hp : 1 ≤ p) (hp2 : p ≤ 2147483648) (hA : NatsAt w A L) (hB : NatsAt w B M)
    (hL : ∀ x ∈ L, x < p) (hM : ∀ x ∈ M, x < p) (hl : L.length ≤ 268435456) (hm : M.length ≤ 268435456) :
    Calls Tryd.prog 78 #[.int .i64 p, .slice A L.length ca, .slice B M.length cb] w (NewList (mulN p L M) w) := by
  have HA := Lib.hid hA
  have HB := Lib.hid hB
  have HL := Lib.hid (nthN_lt hp hL)
  have HM := Lib.hid (nthN_lt hp hM)
  clear hA hB hL hM
  by_cases hL0 : L.length = 0
  · have HE := Lib.hid (mulN_nil (p := p) (a := L) (b := M) (.inl hL0))
    have t1 : ((L.length : Int) == 0) = true := by simp [hL0]
    clear hL0
    go_enter Tryd.func78, Tryd.ntmps78
    go_wp2_with fail
    go_ret
    exact ⟨_, rfl, by rw [HE.out]; exact World.ownsRow_nil _ _ _ _, Below.refl _ _⟩
  · have t1 : ((L.length : Int) == 0) = false := by simp; exact fun e => hL0 (by rw [e]; rfl)
    by_cases hM0 : M.length = 0
    · have HE := Lib.hid (mulN_nil (p := p) (a := L) (b := M) (.inr hM0))
      have t2 : ((M.length : Int) == 0) = true := by simp [hM0]
      clear hL0 hM0
      go_enter Tryd.func78, Tryd.ntmps78
      go_wp2_with fail
      go_ret
      exact ⟨_, rfl, by rw [HE.out]; exact World.ownsRow_nil _ _ _ _, Below.refl _ _⟩
    · have t2 : ((M.length : Int) == 0) = false := by simp; exact fun e => hM0 (by rw [e]; rfl)
      have HE := Lib.hid (mulN_sh (p := p) (a := L) (b := M) (fun h => h.elim hL0 hM0))
      obtain ⟨n, hn⟩ : ∃ n, n = L.length + M.length - 1 := ⟨_, rfl⟩
      have HN := Lib.hid hn
      have hn1 : L.length + M.length ≤ n + 1 := by omega
      have hn2 : n + 1 ≤ L.length + M.length := by omega
      have hL1 : 1 ≤ L.length := by omega
      have hM1 : 1 ≤ M.length := by omega
      clear hn hL0 hM0
      go_enter Tryd.func78, Tryd.ntmps78
      go_wp2_with (at_make; refine make_nats rfl _ _ rfl n rfl rfl (by omega) (by omega) ?_; intro w1 hB1 hb1)
      go_loopw [29] (fun i wr => ∃ (k : Nat) (cs : List Nat), k ≤ L.length ∧ i = .int .i64 k ∧ NatBlk wr w.heap.size cs ∧ cs.length = n ∧ RowC p L M k cs ∧ Below w.heap.size w wr) (fun i _ => L.length - (intOf i).toNat)
      case atStart => exact ⟨0, _, by omega, rfl, hB1, by simp, by rw [HN.out]; exact RowC.zero p L M, hb1⟩
      case round =>
        obtain ⟨i, cs, hi, rfl, hBi, hcl, hcs, hbr⟩ := hrel
        have HCL := Lib.hid hcl
        have HCS := Lib.hid hcs
        have hB1 := hBi
        clear hcl hcs
        by_cases hil : i < L.length
        · obtain ⟨bA, oA, rfl, hbA, hcA⟩ := (HA.out.below hbr) i hil
          have hal := HL.out i
          obtain ⟨wo, rfl⟩ : ∃ wo : World, wo = wr := ⟨_, rfl⟩
          go_wp2_with fail
          go_loopw [36] (fun j wr => ∃ (k : Nat) (ds : List Nat), k ≤ M.length ∧ j = .int .i64 k ∧ NatBlk wr w.heap.size ds ∧ ds.length = n ∧ MidC p L M i k ds ∧ Below w.heap.size w wr) (fun j _ => M.length - (intOf j).toNat)
          case atStart => exact ⟨0, cs, by omega, rfl, hBi, HCL.out, MidC.start HCS.out, hbr⟩
          case round =>
            obtain ⟨k, ds, hk, rfl, hBk, hdl, hds, hbr2⟩ := hrel
            have HDL := Lib.hid hdl
            have HDS := Lib.hid hds
            clear hdl hds
            by_cases hkl : k < M.length
            · obtain ⟨bB, oB, rfl, hbB, hcB⟩ := (HB.out.below hbr2) k hkl
              have hbl := HM.out k
              obtain ⟨m, hm⟩ : ∃ m, m = i + k := ⟨_, rfl⟩
              have HMK := Lib.hid hm
              have hmn : m < n := by omega
              have hmn2 : i + k < L.length + M.length - 1 := by omega
              have e1 : IntKind.i64.wrap ((i : Int) + (k : Int)) = (m : Int) := by rw [hm]; exact (IntWalk.i64_in _ (by omega)).trans (by push_cast; rfl)
              have hcc := hBk.cell m (by rw [HDL.out]; exact hmn)
              have hff := hBk.frozen m
              have hvl : nthN ds m < p := by rw [hm]; exact RowC.lt hp HDS.out _ hmn2
              have hml := fmul_lt hp (nthN L i) (nthN M k)
              have HS := Lib.hid (hBk.set_ m (fadd p (nthN ds m) (fmul p (nthN L i) (nthN M k))))
              have hst := HDS.out.step (by rw [HDL.out]; exact HN.out) hmn2
              rw [← hm] at hst
              have HST := Lib.hid hst
              clear hst
              have HBR := Lib.hid (hbr2.setCell (p := ⟨w.heap.size, m, none⟩) (Nat.le_refl _) (.int .i64 ((fadd p (nthN ds m) (fmul p (nthN L i) (nthN M k)) : Nat) : Int)))
              have i1 : (0 : Int) ≤ (m : Int) := by omega
              have i2 : (m : Int) < (n : Int) := by omega
              clear hm hmn2
              go_wp2_with fail
              refine wp_region_still_tail 17 (by kernel_rfl) (by kernel_rfl) ?_
              simp only [List.take_succ_cons, List.take_zero, List.drop_succ_cons, List.drop_zero]
              repeat still_step
              still_call (mul_nat p (nthN L i) (nthN M k) _ hp hp2 hal hbl)
              repeat still_step
              still_call (add_nat p (nthN ds m) (fmul p (nthN L i) (nthN M k)) _ hp hp2 hvl hml)
              repeat still_step
              refine wpStill_nil ?_
              go_wp2_with fail
              go_roundw
              case rel => exact ⟨k + 1, _, by omega, by go_num, HS.out, by rw [List.length_set]; exact HDL.out, HST.out, HBR.out.drew⟩
              case measure => simp [intOf]; omega
            · obtain rfl : k = M.length := by omega
              go_wp2_with fail
              go_roundw
              case rel => exact ⟨i + 1, ds, by omega, by go_num, hBk, HDL.out, HDS.out.done hp, hbr2⟩
              case measure => simp [intOf]; omega
        · obtain rfl : i = L.length := by omega
          have hall := HCS.out.all hp (by rw [HCL.out]; exact HN.out)
          have HLN := Lib.hid HCL.out
          subst hall
          have hN := hBi.nats
          have hS := SlOK.own hBi (by have := HCL.out; unfold maxLen; omega)
          have hsh := short_any _ _ _ wr hN hS (by have := HCL.out; omega)
          rw [HLN.out] at hsh
          rw [← HE.out] at hsh
          clear hN hS
          go_wp2_with fail
          refine hsh.mono ?_
          rintro e w2 ⟨v, rfl, hown, hb2⟩
          go_wp2_with fail
          go_ret
          exact ⟨_, rfl, ownsRow_mono hown hbr.size, below_trans hbr hb2⟩
end Go.Proofs.YtkjpnhhkebbmdaaDoor
