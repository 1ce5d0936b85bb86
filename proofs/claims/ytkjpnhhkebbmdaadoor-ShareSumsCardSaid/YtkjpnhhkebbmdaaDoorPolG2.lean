/-
  Polynomials: products by the document; which places are different, by the program (a map) and by the document.
-/
import Derived.Test.YtkjpnhhkebbmdaaDoorPolF2
import Derived.Maps.OwnOps
import Derived.Maps.OwnSet
import Derived.Maps.Views
namespace Go.Proofs.YtkjpnhhkebbmdaaDoor
open Go.RowKit

theorem mul_ref {p v x y : Nat} : (v + x * y) % p = fadd p v (fmul p x y) := by unfold fadd fmul; rw [Nat.add_mod_mod]
/-! ### Different places -/
open Go.Maps

theorem lawI : Keyed Tryd.prog 3 := int_keyed Tryd.underlying3
theorem wf_i64 {n : Int} (h1 : -9223372036854775808 ≤ n) (h2 : n ≤ 9223372036854775807) : (Lit.int .i64 n).wf = true := by
  rw [← IntWalk.wrap64_in n ⟨h1, h2⟩]; exact wrap64_wf n
def keyL (n : Nat) : Lit := .int .i64 (n : Int)
def Sn {H : Type} (L : List Nat) (k : Nat) : DataW H := setOf (.lit (.bool true)) ((L.take k).map keyL)
theorem Sn_zero {H : Type} (L : List Nat) : Sn (H := H) L 0 = .map [] := by simp [Sn, setOf]
theorem Sn_succ {H : Type} (L : List Nat) (k : Nat) (hk : k < L.length) : Sn (H := H) L (k + 1) = (Sn L k).put (keyL (nthN L k)) (.lit (.bool true)) := by
  unfold Sn
  rw [List.take_succ_eq_append_getElem hk, List.map_append, List.map_singleton, setOf_snoc, nthN_eq hk]
theorem keyL_key (n : Nat) : WideAt.IsKeyLit (keyL n) := trivial
theorem sameKey_keyL (a b : Nat) : (keyL a).sameKey (keyL b) = decide (a = b) := by
  by_cases h : a = b
  · subst h; rw [WideAt.sameKey_self (keyL_key a)]; simp
  · rw [sameKey_ne (fun e => h (by unfold keyL at e; injection e with _ e; omega))]; simp [h]
def addN (acc : List Nat) (x : Nat) : List Nat := if x ∈ acc then acc else acc ++ [x]
theorem addKey_map (acc : List Nat) (x : Nat) : addKey (acc.map keyL) (keyL x) = (addN acc x).map keyL := by
  have h : (acc.map keyL).any (fun y => y.sameKey (keyL x)) = decide (x ∈ acc) := by
    rw [Bool.eq_iff_iff]
    simp only [List.any_map, List.any_eq_true, Function.comp, sameKey_keyL, decide_eq_true_eq]
    exact ⟨fun ⟨y, hy, e⟩ => e ▸ hy, fun h => ⟨x, h, rfl⟩⟩
  unfold addKey addN
  rw [h]
  by_cases hx : x ∈ acc <;> simp [hx]
theorem foldAdd_map : ∀ (L acc : List Nat), (L.map keyL).foldl addKey (acc.map keyL) = (L.foldl addN acc).map keyL
  | [], _ => rfl
  | x :: L, acc => by rw [List.map_cons, List.foldl_cons, List.foldl_cons, addKey_map, foldAdd_map L]
theorem addN_len : ∀ (L acc : List Nat), acc.Nodup → (L.foldl addN acc).length ≤ acc.length + L.length ∧ ((L.foldl addN acc).length = acc.length + L.length ↔ (acc ++ L).Nodup)
  | [], acc, h => by simp [h]
  | x :: L, acc, h => by
    rw [List.foldl_cons]
    by_cases hx : x ∈ acc
    · have e : addN acc x = acc := if_pos hx
      rw [e]
      obtain ⟨h1, _⟩ := addN_len L acc h
      refine ⟨by simp; omega, ⟨fun h2 => by simp at h2; omega, fun h2 => ?_⟩⟩
      have := (List.nodup_append.1 h2).2.2 x hx x (List.mem_cons_self ..)
      exact absurd rfl this
    · have e : addN acc x = acc ++ [x] := if_neg hx
      rw [e]
      have hn : (acc ++ [x]).Nodup := List.nodup_append.2 ⟨h, by simp, fun a ha b hb => by simp at hb; subst hb; exact fun e => hx (e ▸ ha)⟩
      obtain ⟨h1, h2⟩ := addN_len L (acc ++ [x]) hn
      refine ⟨by simp at h1 ⊢; omega, ?_⟩
      rw [List.append_assoc] at h2
      simp only [List.singleton_append] at h2
      rw [← h2]; simp; omega
def difB (L : List Nat) : Bool := decide L.Nodup
theorem Sn_size (L : List Nat) : ((Maps.size (Sn (H := Unit) L L.length) : Nat) : Int) == (L.length : Int) ↔ L.Nodup := by
  have h := addN_len L [] List.nodup_nil
  have e : Maps.size (Sn (H := Unit) L L.length) = (L.foldl addN []).length := by
    unfold Sn
    rw [List.take_length, size_setOf _ _ (fun x hx => by obtain ⟨n, _, rfl⟩ := List.mem_map.1 hx; exact keyL_key n)]
    have := foldAdd_map L []
    rw [List.map_nil] at this
    rw [this, List.length_map]
  rw [e]
  simp only [List.nil_append, List.length_nil, Nat.zero_add] at h
  rw [← h.2]
  simp only [beq_iff_eq]; omega
theorem Sn_dif (L : List Nat) : (((Maps.size (Sn (H := Unit) L L.length) : Nat) : Int) == (L.length : Int)) = difB L := by
  unfold difB; rw [Bool.eq_iff_iff, Sn_size]; simp
set_option maxRecDepth 100000 in
set_option maxHeartbeats 400000 in
theorem different_any (A : Option Addr) (L : List Nat) (cap : Nat) (w : World) (hN : NatsAt w A L) (hl : L.length ≤ 1073741824) (hL : ∀ x ∈ L, x ≤ 4294967296) :
    Calls Tryd.prog 83 #[.slice A L.length cap] w (RetB (.bool (difB L)) w) := by
  have HN := Lib.hid hN
  have HL := Lib.hid hL
  clear hN hL
  have hmm := @run_makeMap Tryd.prog
  go_enter Tryd.func83, Tryd.ntmps83
  go_wp2
  go_loopw [9] (fun i wr => ∃ k : Nat, k ≤ L.length ∧ i = .int .i64 k ∧ wr.ownsMap Tryd.prog 3 (plainElem Tryd.prog 4) w.heap.size k (Sn (H := Unit) L k) ∧ Below w.heap.size w wr)
    (fun i _ => L.length - (intOf i).toNat)
  case atStart => exact ⟨0, Nat.zero_le _, rfl, by rw [Sn_zero]; exact World.ownsMap_made _ _ _ _, (Below.refl _ _).alloc (Nat.le_refl _) _⟩
  case round =>
    obtain ⟨k, hk, rfl, hown, hnx⟩ := hrel
    by_cases hlt : k < L.length
    · obtain ⟨b, off, rfl, hb, hcell⟩ := (HN.out.below hnx) k hlt
      have hkey : keyOf Tryd.prog 3 (.int .i64 (nthN L k : Nat)) = some (keyL (nthN L k)) := Maps.keyOf_int_mk Tryd.underlying3 (wf_i64 (by omega) (by have := HL.out _ (nthN_mem hlt); omega))
      have HSN := Lib.hid (Sn_succ (H := Unit) L k hlt)
      go_wp2_with (first
        | (at_mapUpdate; refine wpList_mapUpdate_own _ rfl _ _ _ 92 rfl 3 4 lawI Tryd.underlying92 (plainElem (H := Unit) Tryd.prog 4) w.heap.size k _ rfl hown (by unfold maxLen; omega) _ _ _ rfl rfl hkey _ [] (plainElem_bool Tryd.underlying4 true) ?_; intro w1 hown1 hgrow1)
        | go_in)
      go_roundw
      case rel => exact ⟨k + 1, by omega, by go_num, by rw [HSN.out]; exact hown1, hnx.grown hgrow1 hnx.size (fun j hj => by cases hj; exact Nat.le_refl _)⟩
      case measure => simp [intOf]; omega
    · obtain rfl : k = L.length := by omega
      have HD := Lib.hid (Sn_dif L)
      go_wp2_with (first
        | (at_len; refine wpList_len_own _ rfl _ 92 rfl 3 4 Tryd.underlying92 _ w.heap.size L.length _ rfl hown ?_)
        | go_in)
      go_ret
      exact RetB.bool HD.out hnx

/-! ### check, places -/
def plE (L : List Nat) : Int := if L.Nodup then 0 else 6
def ckE (L : List Nat) : Int := if L.length = 0 then 1 else plE L
theorem plE_yes {L : List Nat} (h : L.Nodup) : plE L = 0 := if_pos h
theorem plE_no {L : List Nat} (h : ¬ L.Nodup) : plE L = 6 := if_neg h
theorem ckE_zero {L : List Nat} (h : L.length = 0) : ckE L = 1 := if_pos h
theorem ckE_pos {L : List Nat} (h : ¬ L.length = 0) : ckE L = plE L := if_neg h
set_option maxRecDepth 100000 in
set_option maxHeartbeats 400000 in
theorem check_any (A : Option Addr) (L : List Nat) (cap : Nat) (w : World) (hN : NatsAt w A L) (hl : L.length ≤ 1073741824) (hL : ∀ x ∈ L, x ≤ 4294967296) :
    Calls Tryd.prog 68 #[.slice A L.length cap] w (RetB (.int .i64 (ckE L)) w) := by
  by_cases h0 : L.length = 0
  · have HE := Lib.hid (ckE_zero h0)
    have t1 : ((L.length : Int) == 0) = true := by simp [h0]
    clear h0 hN hL
    go_enter Tryd.func68, Tryd.ntmps68
    go_wp2_with fail
    go_ret
    exact RetB.int (by rw [HE.out]) (Below.refl _ _)
  · have t1 : ((L.length : Int) == 0) = false := by simp; exact fun e => h0 (by rw [e]; rfl)
    have hd := different_any A L cap w hN hl hL
    by_cases hn : L.Nodup
    · have HE := Lib.hid ((ckE_pos h0).trans (plE_yes hn))
      rw [show difB L = true from decide_eq_true hn] at hd
      have HD := Lib.hid hd
      clear h0 hN hL hn hd
      go_enter Tryd.func68, Tryd.ntmps68
      go_wp2_with fail
      refine ret_below HD.out ?_
      intro w1 hb1
      go_wp2_with fail
      go_ret
      exact RetB.int (by rw [HE.out]) hb1
    · have HE := Lib.hid ((ckE_pos h0).trans (plE_no hn))
      rw [show difB L = false from decide_eq_false hn] at hd
      have HD := Lib.hid hd
      clear h0 hN hL hn hd
      go_enter Tryd.func68, Tryd.ntmps68
      go_wp2_with fail
      refine ret_below HD.out ?_
      intro w1 hb1
      go_wp2_with fail
      go_ret
      exact RetB.int (by rw [HE.out]) hb1

theorem nodup_snoc {L : List Nat} {i : Nat} (hi : i < L.length) (h : (L.take i).Nodup) (hne : ∀ j, j < i → nthN L i ≠ nthN L j) : (L.take (i + 1)).Nodup := by
  rw [List.take_succ_eq_append_getElem hi]
  refine List.nodup_append.2 ⟨h, by simp, fun a ha b hb => ?_⟩
  simp at hb; subst hb
  obtain ⟨j, hj, rfl⟩ := List.getElem_of_mem ha
  rw [List.length_take] at hj
  obtain ⟨hj1, hj2⟩ := Nat.lt_min.1 hj
  intro e
  refine hne j hj1 ?_
  rw [nthN_eq hi, nthN_eq hj2, ← e]; simp
theorem not_nodup {L : List Nat} {i j : Nat} (hi : i < L.length) (hj : j < i) (h : nthN L i = nthN L j) : ¬ L.Nodup := fun hn => by
  rw [nthN_eq hi, nthN_eq (by omega)] at h
  exact List.pairwise_iff_getElem.1 hn j i (by omega) hi hj h.symm
set_option maxRecDepth 100000 in
set_option maxHeartbeats 400000 in
theorem places_any (A : Option Addr) (L : List Nat) (cap : Nat) (w : World) (hN : NatsAt w A L) (hS : SlOK A cap L) :
    Calls Tryd.prog 85 #[.slice A L.length cap] w (Ret (.int .i64 (plE L)) w) := by
  have hcl := hS.len
  have hcm := hS.cap
  unfold maxLen at hcm
  have HN := Lib.hid hN
  clear hN hS
  go_enter Tryd.func85, Tryd.ntmps85
  go_wp2
  go_loop [9] (fun i => ∃ k : Nat, k ≤ L.length ∧ i = .int .i64 k ∧ (L.take k).Nodup) (fun i => L.length - (intOf i).toNat)
  case atStart => exact ⟨0, Nat.zero_le _, rfl, by simp⟩
  case round =>
    obtain ⟨i, hi, rfl, hnd⟩ := hrel
    have HND := Lib.hid hnd
    clear hnd
    by_cases hlt : i < L.length
    · obtain ⟨b, off, rfl, _, hcell⟩ := HN.out i hlt
      go_wp2
      go_loop [18] (fun j => ∃ k : Nat, k ≤ i ∧ j = .int .i64 k ∧ ∀ j', j' < k → nthN L i ≠ nthN L j') (fun j => i - (intOf j).toNat)
      case atStart => exact ⟨0, Nat.zero_le _, rfl, fun j h => absurd h (by omega)⟩
      case round =>
        obtain ⟨k, hk, rfl, hne⟩ := hrel
        have HNE := Lib.hid hne
        clear hne
        by_cases hlt2 : k < i
        · obtain ⟨b', off', e', _, hcell2⟩ := HN.out k (by omega)
          injection e' with e'; injection e' with e1 e2; subst e1; subst e2
          by_cases heq : nthN L i = nthN L k
          · have t1 : ((nthN L i : Int) == (nthN L k : Int)) = true := by simp; omega
            have HV := Lib.hid (plE_no (not_nodup hlt hlt2 heq))
            clear heq
            go_wp2
            go_ret
            exact Ret.int (by rw [HV.out])
          · have t1 : ((nthN L i : Int) == (nthN L k : Int)) = false := by simp; omega
            have HQ := Lib.hid heq
            clear heq
            go_wp2
            go_round
            case rel =>
              refine ⟨k + 1, by omega, by go_num, fun j' hj => ?_⟩
              rcases Nat.lt_or_ge j' k with h | h
              · exact HNE.out j' h
              · obtain rfl : j' = k := by omega
                exact HQ.out
            case measure => simp [intOf]; omega
        · obtain rfl : k = i := by omega
          go_wp2
          go_round
          case rel => exact ⟨k + 1, by omega, by go_num, nodup_snoc hlt HND.out HNE.out⟩
          case measure => simp [intOf]; omega
    · obtain rfl : i = L.length := by omega
      have HV := Lib.hid (plE_yes (L := L) (by have := HND.out; rwa [List.take_length] at this))
      go_wp2
      go_ret
      exact Ret.int (by rw [HV.out])
end Go.Proofs.YtkjpnhhkebbmdaaDoor
