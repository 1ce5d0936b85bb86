/-
  Shares of elements: as natural numbers; their holders, their values at a place.
-/
import Derived.Test.YtkjpnhhkebbmdaaDoorShD
namespace Go.Proofs.YtkjpnhhkebbmdaaDoor
open Go.RowKit

abbrev ShN := Nat × List Nat
def shI (s : ShN) : Shr := ((s.1 : Int), ofN s.2)
def hN (N : List ShN) (k : Nat) : Nat := (N.getD k (0, [])).1
def vN (N : List ShN) (k : Nat) : List Nat := (N.getD k (0, [])).2
def shL (N : List ShN) : List Shr := N.map shI
theorem shL_len (N : List ShN) : (shL N).length = N.length := by simp [shL]
theorem hS_shL {N : List ShN} {k : Nat} (_ : k < N.length) : hS (shL N) k = (hN N k : Int) := by
  simp only [hS, hN, shL, List.getD_eq_getElem?_getD, List.getElem?_map]
  cases N[k]? <;> rfl
theorem vS_shL (N : List ShN) (k : Nat) : vS (shL N) k = ofN (vN N k) := by
  simp only [vS, vN, shL, List.getD_eq_getElem?_getD, List.getElem?_map]
  cases N[k]? <;> rfl
theorem shL_take (N : List ShN) (k : Nat) : (shL N).take k = shL (N.take k) := by simp [shL, List.map_take]
def hsN (N : List ShN) : List Nat := N.map Prod.fst
def colN (N : List ShN) (i : Nat) : List Nat := N.map fun s => nthN s.2 i
theorem hsN_len (N : List ShN) : (hsN N).length = N.length := by simp [hsN]
theorem colN_len (N : List ShN) (i : Nat) : (colN N i).length = N.length := by simp [colN]
theorem hsN_nth {N : List ShN} {k : Nat} (h : k < N.length) : nthN (hsN N) k = hN N k := by
  rw [nthN_eq (by rw [hsN_len]; exact h)]; simp [hsN, hN, List.getD_eq_getElem?_getD, h]
theorem colN_nth {N : List ShN} {i k : Nat} (h : k < N.length) : nthN (colN N i) k = nthN (vN N k) i := by
  rw [nthN_eq (by rw [colN_len]; exact h)]; simp [colN, vN, List.getD_eq_getElem?_getD, h]
theorem getD_at {N : List ShN} {k : Nat} (h : k < N.length) : N[k] = (hN N k, vN N k) := by simp [hN, vN, List.getD_eq_getElem?_getD, h]
theorem hsN_take {N : List ShN} {k : Nat} (h : k < N.length) : hsN (N.take (k + 1)) = hsN (N.take k) ++ [hN N k] := by
  rw [List.take_succ_eq_append_getElem h, getD_at h]; simp only [hsN, List.map_append, List.map_cons, List.map_nil]
theorem colN_take {N : List ShN} {i k : Nat} (h : k < N.length) : colN (N.take (k + 1)) i = colN (N.take k) i ++ [nthN (vN N k) i] := by
  rw [List.take_succ_eq_append_getElem h, getD_at h]; simp only [colN, List.map_append, List.map_cons, List.map_nil]
theorem hN_take {N : List ShN} {k j : Nat} (h : j < k) : hN (N.take k) j = hN N j := by simp [hN, List.getD_eq_getElem?_getD, h]
theorem vN_take {N : List ShN} {k j : Nat} (h : j < k) : vN (N.take k) j = vN N j := by simp [vN, List.getD_eq_getElem?_getD, h]
theorem shl_mem {N : List ShN} {s : ShN} (h : s ∈ N) : ∃ k, k < N.length ∧ s = (hN N k, vN N k) := by
  obtain ⟨k, hk, e⟩ := List.getElem_of_mem h
  exact ⟨k, hk, by rw [← e, getD_at hk]⟩
/-- A share in a list of natural shares, in memory. -/
theorem ShP.nat {P : Nat → Prop} {w : World} {A : Option Addr} {c : Nat} {N : List ShN} (h : ShP P w A c (shL N)) {k : Nat} (hk : k < N.length) :
    ∃ b off B c', A = some ⟨b, off, none⟩ ∧ b < w.heap.size ∧ P b ∧ w.cell? ⟨b, off + k * 2, none⟩ = some (.int .i64 (hN N k : Nat)) ∧
      w.cell? ⟨b, off + k * 2 + 1, none⟩ = some (.slice B (vN N k).length c') ∧ NatsAt w B (vN N k) ∧ IntsP P w B c' (ofN (vN N k)) := by
  obtain ⟨b, off, B, c', hA, hb, hP, h1, h2, h3⟩ := h.at_ k (by rw [shL_len]; exact hk)
  rw [hS_shL hk] at h1
  rw [vS_shL, len_ofN] at h2
  rw [vS_shL] at h3
  exact ⟨b, off, B, c', hA, hb, hP, h1, h2, h3.ints.nats, h3⟩
theorem ShP.cap {P : Nat → Prop} {w : World} {A : Option Addr} {c : Nat} {N : List ShN} (h : ShP P w A c (shL N)) : N.length ≤ c := by
  have := h.ok.len; rw [shL_len] at this; exact this

theorem lit1_at (w : World) (g x : Nat) (h : g = w.heap.size) : NatBlk (w.alloc (.cells #[.int .i64 (x : Int)] 3)) g [x] := by subst h; exact lit1_nats w x
set_option maxRecDepth 100000 in
set_option maxHeartbeats 1000000 in
theorem holders_any {P : Nat → Prop} (A : Option Addr) (c : Nat) (N : List ShN) (w : World) (hS : ShP P w A c (shL N)) (hl : N.length ≤ 1048576) :
    Calls Tryd.prog 52 #[.slice A N.length c] w (NewList (hsN N) w) := by
  have HS := Lib.hid hS
  clear hS
  go_enter Tryd.func52, Tryd.ntmps52
  go_wp2_with fail
  go_loopw [3, 8] (fun o i wr => ∃ k : Nat, k ≤ N.length ∧ i = .int .i64 k ∧ wr.ownsRow w.heap.size 3 1 o (hsN (N.take k)).length (valsN (hsN (N.take k))) ∧ Below w.heap.size w wr) (fun _ i _ => N.length - (intOf i).toNat)
  case atStart => exact ⟨0, Nat.zero_le _, rfl, World.ownsRow_nil _ _ _ _, Below.refl _ _⟩
  case round =>
    obtain ⟨k, hk, rfl, hown, hb⟩ := hrel
    have hsz := hb.size
    by_cases hlt : k < N.length
    · obtain ⟨b, off, B, c', rfl, hbl, -, h1, h2, -, -⟩ := (HS.out.below hb).nat hlt
      have HT := Lib.hid (hsN_take hlt)
      have hln : (hsN (N.take k)).length ≤ 1048576 := by rw [hsN_len]; simp; omega
      generalize hsN (N.take k) = S at *
      generalize hN N k = x at *
      go_wp2_with (at_builtin; refine app_nats rfl (.tmp 12) (.tmp 15) rfl (base := w.heap.size) (S := S) (T := [x]) rfl ((hown.alloc _).alloc _) rfl ((lit1_at _ _ x (by simp)).nats.news rfl) (by simp; omega) (by simp; omega) ?_; intro v4 w4 hown4 hg4 hb4)
      go_roundw
      case rel => exact ⟨k + 1, by omega, by go_num, by rw [HT.out]; exact hown4, hb.trans (below_of_alloc (below_of_alloc hb4 (by simp; omega)) hsz)⟩
      case measure => simp [intOf]; omega
    · obtain rfl : k = N.length := by omega
      rw [List.take_length] at hown
      go_wp2_with fail
      go_ret
      exact ⟨_, rfl, hown, hb⟩

set_option maxRecDepth 100000 in
set_option maxHeartbeats 1000000 in
theorem values_any {P : Nat → Prop} (A : Option Addr) (c : Nat) (N : List ShN) (i : Nat) (w : World) (hS : ShP P w A c (shL N)) (hl : N.length ≤ 1048576) (hi : ∀ k, k < N.length → i < (vN N k).length) (hi2 : i ≤ 1048576) :
    Calls Tryd.prog 54 #[.slice A N.length c, .int .i64 i] w (NewList (colN N i) w) := by
  have HS := Lib.hid hS
  have HI := Lib.hid hi
  clear hS hi
  go_enter Tryd.func54, Tryd.ntmps54
  go_wp2_with fail
  go_loopw [5, 10] (fun o i' wr => ∃ k : Nat, k ≤ N.length ∧ i' = .int .i64 k ∧ wr.ownsRow w.heap.size 3 1 o (colN (N.take k) i).length (valsN (colN (N.take k) i)) ∧ Below w.heap.size w wr) (fun _ i' _ => N.length - (intOf i').toNat)
  case atStart => exact ⟨0, Nat.zero_le _, rfl, World.ownsRow_nil _ _ _ _, Below.refl _ _⟩
  case round =>
    obtain ⟨k, hk, rfl, hown, hb⟩ := hrel
    have hsz := hb.size
    by_cases hlt : k < N.length
    · obtain ⟨b, off, B, c', rfl, hbl, -, h1, h2, hN, -⟩ := (HS.out.below hb).nat hlt
      obtain ⟨b2, o2, rfl, hb2, hc2⟩ := hN i (HI.out k hlt)
      have hik := HI.out k hlt
      have HT := Lib.hid (colN_take (i := i) hlt)
      have hln : (colN (N.take k) i).length ≤ 1048576 := by rw [colN_len]; simp; omega
      have i1 : (0 : Int) ≤ (i : Int) := by omega
      have i2 : (i : Int) < ((vN N k).length : Int) := by omega
      clear hN
      generalize colN (N.take k) i = S at *
      generalize nthN (vN N k) i = x at *
      go_wp2_with (at_builtin; refine app_nats rfl (.tmp 14) (.tmp 20) rfl (base := w.heap.size) (S := S) (T := [x]) rfl ((hown.alloc _).alloc _) rfl ((lit1_at _ _ x (by simp)).nats.news rfl) (by simp; omega) (by simp; omega) ?_; intro v4 w4 hown4 hg4 hb4)
      go_roundw
      case rel => exact ⟨k + 1, by omega, by go_num, by rw [HT.out]; exact hown4, hb.trans (below_of_alloc (below_of_alloc hb4 (by simp; omega)) hsz)⟩
      case measure => simp [intOf]; omega
    · obtain rfl : k = N.length := by omega
      rw [List.take_length] at hown
      go_wp2_with fail
      go_ret
      exact ⟨_, rfl, hown, hb⟩
end Go.Proofs.YtkjpnhhkebbmdaaDoor
