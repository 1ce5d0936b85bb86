/-
  Polynomials: products by the document; which places are different, by the program (a map) and by the document.
-/
import Derived.Test.YthbablmgpjjphaaPolF
import Derived.Maps.OwnOps
import Derived.Maps.OwnSet
import Derived.Maps.Views
namespace Go.Proofs.Ythbablmgpjjphaa
open Go.RowKit

theorem mul_ref {p v x y : Nat} : (v + x * y) % p = fadd p v (fmul p x y) := by unfold fadd fmul; rw [Nat.add_mod_mod]
set_option maxRecDepth 100000 in
set_option maxHeartbeats 1000000 in
theorem refMul_any (p : Nat) (A B : Option Addr) (L M : List Nat) (ca cb : Nat) (w : World) (hp : 1 ≤ p) (hp2 : p ≤ 2147483648) (hA : NatsAt w A L) (hB : NatsAt w B M)
    (hL : ∀ x ∈ L, x < p) (hM : ∀ x ∈ M, x < p) (hl : L.length ≤ 268435456) (hm : M.length ≤ 268435456) :
    Calls Try.prog 22 #[.int .i64 p, .slice A L.length ca, .slice B M.length cb] w (NewList (mulN p L M) w) := by
  have HA := Lib.hid hA
  have HB := Lib.hid hB
  have HL := Lib.hid (nthN_lt hp hL)
  have HM := Lib.hid (nthN_lt hp hM)
  clear hA hB hL hM
  have t5 : ((p : Int) == 0) = false := by simp; omega
  have t6 : ¬ (p : Int) = 0 := by omega
  by_cases hL0 : L.length = 0
  · have HE := Lib.hid (mulN_nil (p := p) (a := L) (b := M) (.inl hL0))
    have t1 : ((L.length : Int) == 0) = true := by simp [hL0]
    clear hL0
    go_enter Try.func22, Try.ntmps22
    go_wp2_with fail
    go_ret
    exact ⟨_, rfl, by rw [HE.out]; exact World.ownsRow_nil _ _ _ _, Below.refl _ _⟩
  · have t1 : ((L.length : Int) == 0) = false := by simp; exact fun e => hL0 (by rw [e]; rfl)
    by_cases hM0 : M.length = 0
    · have HE := Lib.hid (mulN_nil (p := p) (a := L) (b := M) (.inr hM0))
      have t2 : ((M.length : Int) == 0) = true := by simp [hM0]
      clear hL0 hM0
      go_enter Try.func22, Try.ntmps22
      go_wp2_with fail
      go_ret
      exact ⟨_, rfl, by rw [HE.out]; exact World.ownsRow_nil _ _ _ _, Below.refl _ _⟩
    · have t2 : ((M.length : Int) == 0) = false := by simp; exact fun e => hM0 (by rw [e]; rfl)
      have HE := Lib.hid (mulN_sh (p := p) (a := L) (b := M) (fun h => h.elim hL0 hM0))
      obtain ⟨n, hn⟩ : ∃ n, n = L.length + M.length - 1 := ⟨_, rfl⟩
      have HN := Lib.hid hn
      have hn1 : L.length + M.length ≤ n + 1 := by omega
      have hn2 : n + 1 ≤ L.length + M.length := by omega
      have hL1 : 1 ≤ L.length := by omega
      have hM1 : 1 ≤ M.length := by omega
      clear hn hL0 hM0
      go_enter Try.func22, Try.ntmps22
      go_wp2_with (at_make; refine make_nats rfl _ _ rfl n rfl rfl (by omega) (by omega) ?_; intro w1 hB1 hb1)
      go_loopw [29] (fun i wr => ∃ (k : Nat) (cs : List Nat), k ≤ L.length ∧ i = .int .i64 k ∧ NatBlk wr w.heap.size cs ∧ cs.length = n ∧ RowC p L M k cs ∧ Below w.heap.size w wr) (fun i _ => L.length - (intOf i).toNat)
      case atStart => exact ⟨0, _, by omega, rfl, hB1, by simp, by rw [HN.out]; exact RowC.zero p L M, hb1⟩
      case round =>
        obtain ⟨i, cs, hi, rfl, hBi, hcl, hcs, hbr⟩ := hrel
        have HCL := Lib.hid hcl
        have HCS := Lib.hid hcs
        have hB1 := hBi
        clear hcl hcs
        by_cases hil : i < L.length
        · obtain ⟨bA, oA, rfl, hbA, hcA⟩ := (HA.out.below hbr) i hil
          have hal := HL.out i
          obtain ⟨wo, rfl⟩ : ∃ wo : World, wo = wr := ⟨_, rfl⟩
          go_wp2_with fail
          go_loopw [36] (fun j wr => ∃ (k : Nat) (ds : List Nat), k ≤ M.length ∧ j = .int .i64 k ∧ NatBlk wr w.heap.size ds ∧ ds.length = n ∧ MidC p L M i k ds ∧ Below w.heap.size w wr) (fun j _ => M.length - (intOf j).toNat)
          case atStart => exact ⟨0, cs, by omega, rfl, hBi, HCL.out, MidC.start HCS.out, hbr⟩
          case round =>
            obtain ⟨k, ds, hk, rfl, hBk, hdl, hds, hbr2⟩ := hrel
            have HDL := Lib.hid hdl
            have HDS := Lib.hid hds
            clear hdl hds
            by_cases hkl : k < M.length
            · obtain ⟨bB, oB, rfl, hbB, hcB⟩ := (HB.out.below hbr2) k hkl
              have hbl := HM.out k
              obtain ⟨m, hm⟩ : ∃ m, m = i + k := ⟨_, rfl⟩
              have HMK := Lib.hid hm
              have hmn : m < n := by omega
              have hmn2 : i + k < L.length + M.length - 1 := by omega
              have e1 : IntKind.i64.wrap ((i : Int) + (k : Int)) = (m : Int) := by rw [hm]; exact (IntWalk.i64_in _ (by omega)).trans (by push_cast; rfl)
              have hcc := hBk.cell m (by rw [HDL.out]; exact hmn)
              have hff := hBk.frozen m
              have hvl : nthN ds m < p := by rw [hm]; exact RowC.lt hp HDS.out _ hmn2
              have hml := fmul_lt hp (nthN L i) (nthN M k)
              have HS := Lib.hid (hBk.set_ m (fadd p (nthN ds m) (fmul p (nthN L i) (nthN M k))))
              have hst := HDS.out.step (by rw [HDL.out]; exact HN.out) hmn2
              rw [← hm] at hst
              have HST := Lib.hid hst
              clear hst
              have HBR := Lib.hid (hbr2.setCell (p := ⟨w.heap.size, m, none⟩) (Nat.le_refl _) (.int .i64 ((fadd p (nthN ds m) (fmul p (nthN L i) (nthN M k)) : Nat) : Int)))
              have hb0 := mulN_bound hal hbl hp2
              have q1 : (nthN L i : Int) * (nthN M k : Int) = (nthN L i * nthN M k : Nat) := by push_cast; rfl
              have w1 : IntKind.i64.wrap ((nthN L i : Int) * (nthN M k : Int)) = (nthN L i : Int) * (nthN M k : Int) := IntWalk.i64_in _ (by omega)
              have w2 : IntKind.i64.wrap ((nthN ds m : Int) + (nthN L i : Int) * (nthN M k : Int)) = (nthN ds m : Int) + (nthN L i : Int) * (nthN M k : Int) := IntWalk.i64_in _ (by omega)
              have r1 : ((nthN ds m : Int) + (nthN L i : Int) * (nthN M k : Int)).tmod p = (fadd p (nthN ds m) (fmul p (nthN L i) (nthN M k)) : Nat) := by
                rw [q1, ← Int.natCast_add, Int.tmod_eq_emod_of_nonneg (by omega), ← Int.natCast_emod, mul_ref]
              clear q1 hb0
              have i1 : (0 : Int) ≤ (m : Int) := by omega
              have i2 : (m : Int) < (n : Int) := by omega
              clear hm hmn2
              go_wp2_with fail
              go_roundw
              case rel => exact ⟨k + 1, _, by omega, by go_num, HS.out, by rw [List.length_set]; exact HDL.out, HST.out, HBR.out⟩
              case measure => simp [intOf]; omega
            · obtain rfl : k = M.length := by omega
              go_wp2_with fail
              go_roundw
              case rel => exact ⟨i + 1, ds, by omega, by go_num, hBk, HDL.out, HDS.out.done hp, hbr2⟩
              case measure => simp [intOf]; omega
        · obtain rfl : i = L.length := by omega
          have hall := HCS.out.all hp (by rw [HCL.out]; exact HN.out)
          have HLN := Lib.hid HCL.out
          subst hall
          have hN := hBi.nats
          have hS := SlOK.own hBi (by have := HCL.out; unfold maxLen; omega)
          have hsh := refShort_any _ _ _ wr hN hS (by have := HCL.out; omega)
          rw [HLN.out] at hsh
          rw [← HE.out] at hsh
          clear hN hS
          go_wp2_with fail
          refine hsh.mono ?_
          rintro e w2 ⟨v, rfl, hown, hb2⟩
          go_wp2_with fail
          go_ret
          exact ⟨_, rfl, ownsRow_mono hown hbr.size, below_trans hbr hb2⟩

/-! ### Different places -/
open Go.Maps

theorem lawI : Keyed Try.prog 3 := int_keyed Try.underlying3
theorem wf_i64 {n : Int} (h1 : -9223372036854775808 ≤ n) (h2 : n ≤ 9223372036854775807) : (Lit.int .i64 n).wf = true := by
  rw [← IntWalk.wrap64_in n ⟨h1, h2⟩]; exact wrap64_wf n
def keyL (n : Nat) : Lit := .int .i64 (n : Int)
def Sn {H : Type} (L : List Nat) (k : Nat) : DataW H := setOf (.lit (.bool true)) ((L.take k).map keyL)
theorem Sn_zero {H : Type} (L : List Nat) : Sn (H := H) L 0 = .map [] := by simp [Sn, setOf]
theorem Sn_succ {H : Type} (L : List Nat) (k : Nat) (hk : k < L.length) : Sn (H := H) L (k + 1) = (Sn L k).put (keyL (nthN L k)) (.lit (.bool true)) := by
  unfold Sn
  rw [List.take_succ_eq_append_getElem hk, List.map_append, List.map_singleton, setOf_snoc, nthN_eq hk]
theorem keyL_key (n : Nat) : WideAt.IsKeyLit (keyL n) := trivial
theorem sameKey_keyL (a b : Nat) : (keyL a).sameKey (keyL b) = decide (a = b) := by
  by_cases h : a = b
  · subst h; rw [WideAt.sameKey_self (keyL_key a)]; simp
  · rw [sameKey_ne (fun e => h (by unfold keyL at e; injection e with _ e; omega))]; simp [h]
def addN (acc : List Nat) (x : Nat) : List Nat := if x ∈ acc then acc else acc ++ [x]
theorem addKey_map (acc : List Nat) (x : Nat) : addKey (acc.map keyL) (keyL x) = (addN acc x).map keyL := by
  have h : (acc.map keyL).any (fun y => y.sameKey (keyL x)) = decide (x ∈ acc) := by
    rw [Bool.eq_iff_iff]
    simp only [List.any_map, List.any_eq_true, Function.comp, sameKey_keyL, decide_eq_true_eq]
    exact ⟨fun ⟨y, hy, e⟩ => e ▸ hy, fun h => ⟨x, h, rfl⟩⟩
  unfold addKey addN
  rw [h]
  by_cases hx : x ∈ acc <;> simp [hx]
theorem foldAdd_map : ∀ (L acc : List Nat), (L.map keyL).foldl addKey (acc.map keyL) = (L.foldl addN acc).map keyL
  | [], _ => rfl
  | x :: L, acc => by rw [List.map_cons, List.foldl_cons, List.foldl_cons, addKey_map, foldAdd_map L]
theorem addN_len : ∀ (L acc : List Nat), acc.Nodup → (L.foldl addN acc).length ≤ acc.length + L.length ∧ ((L.foldl addN acc).length = acc.length + L.length ↔ (acc ++ L).Nodup)
  | [], acc, h => by simp [h]
  | x :: L, acc, h => by
    rw [List.foldl_cons]
    by_cases hx : x ∈ acc
    · have e : addN acc x = acc := if_pos hx
      rw [e]
      obtain ⟨h1, _⟩ := addN_len L acc h
      refine ⟨by simp; omega, ⟨fun h2 => by simp at h2; omega, fun h2 => ?_⟩⟩
      have := (List.nodup_append.1 h2).2.2 x hx x (List.mem_cons_self ..)
      exact absurd rfl this
    · have e : addN acc x = acc ++ [x] := if_neg hx
      rw [e]
      have hn : (acc ++ [x]).Nodup := List.nodup_append.2 ⟨h, by simp, fun a ha b hb => by simp at hb; subst hb; exact fun e => hx (e ▸ ha)⟩
      obtain ⟨h1, h2⟩ := addN_len L (acc ++ [x]) hn
      refine ⟨by simp at h1 ⊢; omega, ?_⟩
      rw [List.append_assoc] at h2
      simp only [List.singleton_append] at h2
      rw [← h2]; simp; omega
def difB (L : List Nat) : Bool := decide L.Nodup
theorem Sn_size (L : List Nat) : ((Maps.size (Sn (H := Unit) L L.length) : Nat) : Int) == (L.length : Int) ↔ L.Nodup := by
  have h := addN_len L [] List.nodup_nil
  have e : Maps.size (Sn (H := Unit) L L.length) = (L.foldl addN []).length := by
    unfold Sn
    rw [List.take_length, size_setOf _ _ (fun x hx => by obtain ⟨n, _, rfl⟩ := List.mem_map.1 hx; exact keyL_key n)]
    have := foldAdd_map L []
    rw [List.map_nil] at this
    rw [this, List.length_map]
  rw [e]
  simp only [List.nil_append, List.length_nil, Nat.zero_add] at h
  rw [← h.2]
  simp only [beq_iff_eq]; omega
theorem Sn_dif (L : List Nat) : (((Maps.size (Sn (H := Unit) L L.length) : Nat) : Int) == (L.length : Int)) = difB L := by
  unfold difB; rw [Bool.eq_iff_iff, Sn_size]; simp
set_option maxRecDepth 100000 in
set_option maxHeartbeats 400000 in
theorem different_any (A : Option Addr) (L : List Nat) (cap : Nat) (w : World) (hN : NatsAt w A L) (hl : L.length ≤ 1073741824) (hL : ∀ x ∈ L, x ≤ 4294967296) :
    Calls Try.prog 52 #[.slice A L.length cap] w (RetB (.bool (difB L)) w) := by
  have HN := Lib.hid hN
  have HL := Lib.hid hL
  clear hN hL
  have hmm := @run_makeMap Try.prog
  go_enter Try.func52, Try.ntmps52
  go_wp2
  go_loopw [9] (fun i wr => ∃ k : Nat, k ≤ L.length ∧ i = .int .i64 k ∧ wr.ownsMap Try.prog 3 (plainElem Try.prog 4) w.heap.size k (Sn (H := Unit) L k) ∧ Below w.heap.size w wr)
    (fun i _ => L.length - (intOf i).toNat)
  case atStart => exact ⟨0, Nat.zero_le _, rfl, by rw [Sn_zero]; exact World.ownsMap_made _ _ _ _, (Below.refl _ _).alloc (Nat.le_refl _) _⟩
  case round =>
    obtain ⟨k, hk, rfl, hown, hnx⟩ := hrel
    by_cases hlt : k < L.length
    · obtain ⟨b, off, rfl, hb, hcell⟩ := (HN.out.below hnx) k hlt
      have hkey : keyOf Try.prog 3 (.int .i64 (nthN L k : Nat)) = some (keyL (nthN L k)) := Maps.keyOf_int_mk Try.underlying3 (wf_i64 (by omega) (by have := HL.out _ (nthN_mem hlt); omega))
      have HSN := Lib.hid (Sn_succ (H := Unit) L k hlt)
      go_wp2_with (first
        | (at_mapUpdate; refine wpList_mapUpdate_own _ rfl _ _ _ 63 rfl 3 4 lawI Try.underlying63 (plainElem (H := Unit) Try.prog 4) w.heap.size k _ rfl hown (by unfold maxLen; omega) _ _ _ rfl rfl hkey _ [] (plainElem_bool Try.underlying4 true) ?_; intro w1 hown1 hgrow1)
        | go_in)
      go_roundw
      case rel => exact ⟨k + 1, by omega, by go_num, by rw [HSN.out]; exact hown1, hnx.grown hgrow1 hnx.size (fun j hj => by cases hj; exact Nat.le_refl _)⟩
      case measure => simp [intOf]; omega
    · obtain rfl : k = L.length := by omega
      have HD := Lib.hid (Sn_dif L)
      go_wp2_with (first
        | (at_len; refine wpList_len_own _ rfl _ 63 rfl 3 4 Try.underlying63 _ w.heap.size L.length _ rfl hown ?_)
        | go_in)
      go_ret
      exact RetB.bool HD.out hnx

/-! ### check, places -/
def plE (L : List Nat) : Int := if L.Nodup then 0 else 6
def ckE (L : List Nat) : Int := if L.length = 0 then 1 else plE L
theorem plE_yes {L : List Nat} (h : L.Nodup) : plE L = 0 := if_pos h
theorem plE_no {L : List Nat} (h : ¬ L.Nodup) : plE L = 6 := if_neg h
theorem ckE_zero {L : List Nat} (h : L.length = 0) : ckE L = 1 := if_pos h
theorem ckE_pos {L : List Nat} (h : ¬ L.length = 0) : ckE L = plE L := if_neg h
set_option maxRecDepth 100000 in
set_option maxHeartbeats 400000 in
theorem check_any (A : Option Addr) (L : List Nat) (cap : Nat) (w : World) (hN : NatsAt w A L) (hl : L.length ≤ 1073741824) (hL : ∀ x ∈ L, x ≤ 4294967296) :
    Calls Try.prog 42 #[.slice A L.length cap] w (RetB (.int .i64 (ckE L)) w) := by
  by_cases h0 : L.length = 0
  · have HE := Lib.hid (ckE_zero h0)
    have t1 : ((L.length : Int) == 0) = true := by simp [h0]
    clear h0 hN hL
    go_enter Try.func42, Try.ntmps42
    go_wp2_with fail
    go_ret
    exact RetB.int (by rw [HE.out]) (Below.refl _ _)
  · have t1 : ((L.length : Int) == 0) = false := by simp; exact fun e => h0 (by rw [e]; rfl)
    have hd := different_any A L cap w hN hl hL
    by_cases hn : L.Nodup
    · have HE := Lib.hid ((ckE_pos h0).trans (plE_yes hn))
      rw [show difB L = true from decide_eq_true hn] at hd
      have HD := Lib.hid hd
      clear h0 hN hL hn hd
      go_enter Try.func42, Try.ntmps42
      go_wp2_with fail
      refine ret_below HD.out ?_
      intro w1 hb1
      go_wp2_with fail
      go_ret
      exact RetB.int (by rw [HE.out]) hb1
    · have HE := Lib.hid ((ckE_pos h0).trans (plE_no hn))
      rw [show difB L = false from decide_eq_false hn] at hd
      have HD := Lib.hid hd
      clear h0 hN hL hn hd
      go_enter Try.func42, Try.ntmps42
      go_wp2_with fail
      refine ret_below HD.out ?_
      intro w1 hb1
      go_wp2_with fail
      go_ret
      exact RetB.int (by rw [HE.out]) hb1

theorem nodup_snoc {L : List Nat} {i : Nat} (hi : i < L.length) (h : (L.take i).Nodup) (hne : ∀ j, j < i → nthN L i ≠ nthN L j) : (L.take (i + 1)).Nodup := by
  rw [List.take_succ_eq_append_getElem hi]
  refine List.nodup_append.2 ⟨h, by simp, fun a ha b hb => ?_⟩
  simp at hb; subst hb
  obtain ⟨j, hj, rfl⟩ := List.getElem_of_mem ha
  rw [List.length_take] at hj
  obtain ⟨hj1, hj2⟩ := Nat.lt_min.1 hj
  intro e
  refine hne j hj1 ?_
  rw [nthN_eq hi, nthN_eq hj2, ← e]; simp
theorem not_nodup {L : List Nat} {i j : Nat} (hi : i < L.length) (hj : j < i) (h : nthN L i = nthN L j) : ¬ L.Nodup := fun hn => by
  rw [nthN_eq hi, nthN_eq (by omega)] at h
  exact List.pairwise_iff_getElem.1 hn j i (by omega) hi hj h.symm
set_option maxRecDepth 100000 in
set_option maxHeartbeats 400000 in
theorem places_any (A : Option Addr) (L : List Nat) (cap : Nat) (w : World) (hN : NatsAt w A L) (hS : SlOK A cap L) :
    Calls Try.prog 44 #[.slice A L.length cap] w (Ret (.int .i64 (plE L)) w) := by
  have hcl := hS.len
  have hcm := hS.cap
  unfold maxLen at hcm
  have HN := Lib.hid hN
  clear hN hS
  go_enter Try.func44, Try.ntmps44
  go_wp2
  go_loop [9] (fun i => ∃ k : Nat, k ≤ L.length ∧ i = .int .i64 k ∧ (L.take k).Nodup) (fun i => L.length - (intOf i).toNat)
  case atStart => exact ⟨0, Nat.zero_le _, rfl, by simp⟩
  case round =>
    obtain ⟨i, hi, rfl, hnd⟩ := hrel
    have HND := Lib.hid hnd
    clear hnd
    by_cases hlt : i < L.length
    · obtain ⟨b, off, rfl, _, hcell⟩ := HN.out i hlt
      go_wp2
      go_loop [18] (fun j => ∃ k : Nat, k ≤ i ∧ j = .int .i64 k ∧ ∀ j', j' < k → nthN L i ≠ nthN L j') (fun j => i - (intOf j).toNat)
      case atStart => exact ⟨0, Nat.zero_le _, rfl, fun j h => absurd h (by omega)⟩
      case round =>
        obtain ⟨k, hk, rfl, hne⟩ := hrel
        have HNE := Lib.hid hne
        clear hne
        by_cases hlt2 : k < i
        · obtain ⟨b', off', e', _, hcell2⟩ := HN.out k (by omega)
          injection e' with e'; injection e' with e1 e2; subst e1; subst e2
          by_cases heq : nthN L i = nthN L k
          · have t1 : ((nthN L i : Int) == (nthN L k : Int)) = true := by simp; omega
            have HV := Lib.hid (plE_no (not_nodup hlt hlt2 heq))
            clear heq
            go_wp2
            go_ret
            exact Ret.int (by rw [HV.out])
          · have t1 : ((nthN L i : Int) == (nthN L k : Int)) = false := by simp; omega
            have HQ := Lib.hid heq
            clear heq
            go_wp2
            go_round
            case rel =>
              refine ⟨k + 1, by omega, by go_num, fun j' hj => ?_⟩
              rcases Nat.lt_or_ge j' k with h | h
              · exact HNE.out j' h
              · obtain rfl : j' = k := by omega
                exact HQ.out
            case measure => simp [intOf]; omega
        · obtain rfl : k = i := by omega
          go_wp2
          go_round
          case rel => exact ⟨k + 1, by omega, by go_num, nodup_snoc hlt HND.out HNE.out⟩
          case measure => simp [intOf]; omega
    · obtain rfl : i = L.length := by omega
      have HV := Lib.hid (plE_yes (L := L) (by have := HND.out; rwa [List.take_length] at this))
      go_wp2
      go_ret
      exact Ret.int (by rw [HV.out])
end Go.Proofs.Ythbablmgpjjphaa
