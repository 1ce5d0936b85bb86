/-
  Desks: texts, and lists of them.
  Desks: find.
  Tests, one by one, with their answers.
  Conditions: those that each theorem names.
-/
import Derived.Test.YtjckpammcgeloaaM1
import Derived.Deep.QuietTactic
import Derived.BigQuiet
import Derived.Laws.Strings2
import Derived.Laws.EntriesVeiled
import Derived.Conc.MuLone
set_option linter.unusedVariables false
set_option linter.unusedSimpArgs false
namespace Go.Proofs.Ytjckpammcgeloaa
open Go.RowKit

theorem gen_calls {P : Program} {f : FuncId} {args : Array Value} {w : World} {R : Ending → World → Prop} (h : ∀ W, W = w → Calls P f args W R) : Calls P f args w R := h w rfl
theorem bl_alloc {w0 w : World} (o : Obj) (h : Below w0.heap.size w0 w) : Below w0.heap.size w0 (w.alloc o) := below_trans h (below_alloc _ _)
def eqS (s t : ByteArray) : Bool := s.toList == t.toList
theorem eqS_iff {s t : ByteArray} : eqS s t = true ↔ s = t := by
  unfold eqS
  rw [ByteArray.toList_eq, ByteArray.toList_eq, beq_iff_eq]
  constructor
  · intro h
    obtain ⟨⟨l⟩⟩ := s
    obtain ⟨⟨m⟩⟩ := t
    have : l = m := h
    rw [this]
  · intro h; rw [h]
theorem eqS_refl (s : ByteArray) : eqS s s = true := eqS_iff.2 rfl
theorem eqS_no {s t : ByteArray} : eqS s t = false ↔ s ≠ t := by
  constructor
  · intro h e; rw [eqS_iff.2 e] at h; cases h
  · intro h
    cases e : eqS s t with
    | false => rfl
    | true => exact absurd (eqS_iff.1 e) h
/-! ### The first place -/
def ixK {α : Type} (T : α → Bool) (L : List α) : Int := match L.findIdx? T with | some k => (k : Int) | none => -1
theorem ixK_at {α : Type} (d : α) {T : α → Bool} {L : List α} {k : Nat} (hk : k < L.length) (h : T (L.getD k d) = true) (hp : ∀ j, j < k → T (L.getD j d) = false) : ixK T L = k := by
  have e : L.findIdx? T = some k := by
    rw [List.findIdx?_eq_some_iff_getElem]
    refine ⟨hk, by simpa [List.getD_eq_getElem?_getD, hk] using h, fun j hj => ?_⟩
    have := hp j hj
    have hjl : j < L.length := by omega
    simp [List.getD_eq_getElem?_getD, hjl] at this
    simp [this]
  unfold ixK; rw [e]
theorem ixK_no {α : Type} (d : α) {T : α → Bool} {L : List α} (h : ∀ j, j < L.length → T (L.getD j d) = false) : ixK T L = -1 := by
  have e : L.findIdx? T = none := by
    rw [List.findIdx?_eq_none_iff]
    intro x hx
    obtain ⟨j, hj, rfl⟩ := List.getElem_of_mem hx
    have := h j hj
    simpa [List.getD_eq_getElem?_getD, hj] using this
  unfold ixK; rw [e]
theorem ixK_cases {α : Type} (d : α) (T : α → Bool) (L : List α) : (ixK T L = -1 ∧ L.any T = false ∧ ∀ j, j < L.length → T (L.getD j d) = false) ∨ ∃ k : Nat, ixK T L = k ∧ k < L.length ∧ T (L.getD k d) = true ∧ L.any T = true ∧ ∀ j, j < k → T (L.getD j d) = false := by
  cases e : L.findIdx? T with
  | none =>
    left
    rw [List.findIdx?_eq_none_iff] at e
    refine ⟨by unfold ixK; rw [List.findIdx?_eq_none_iff.2 e], by rw [List.any_eq_false]; intro x hx; simp [e x hx], fun j hj => ?_⟩
    rw [List.getD_eq_getElem?_getD, List.getElem?_eq_getElem hj]
    exact e _ (List.getElem_mem hj)
  | some k =>
    right
    have e' := e
    rw [List.findIdx?_eq_some_iff_getElem] at e
    obtain ⟨hk, h1, h2⟩ := e
    refine ⟨k, by unfold ixK; rw [e'], hk, by rw [List.getD_eq_getElem?_getD, List.getElem?_eq_getElem hk]; exact h1, by rw [List.any_eq_true]; exact ⟨_, List.getElem_mem hk, h1⟩, fun j hj => ?_⟩
    have hjl : j < L.length := by omega
    rw [List.getD_eq_getElem?_getD, List.getElem?_eq_getElem hjl]
    have := h2 j hj
    simpa using this
theorem ixK_any {α : Type} (d : α) (T : α → Bool) (L : List α) : decide (0 ≤ ixK T L) = L.any T := by
  rcases ixK_cases d T L with ⟨h1, h2, -⟩ | ⟨k, h1, -, -, h2, -⟩
  · rw [h1, h2]; rfl
  · rw [h1, h2]; simp
theorem ixT_at {T : ByteArray → Bool} {S : List ByteArray} {k : Nat} (hk : k < S.length) (h : T (sAt S k) = true) (hp : ∀ j, j < k → T (sAt S j) = false) : ixK T S = k := ixK_at (⟨#[]⟩ : ByteArray) hk h hp
theorem ixT_no {T : ByteArray → Bool} {S : List ByteArray} (h : ∀ j, j < S.length → T (sAt S j) = false) : ixK T S = -1 := ixK_no (⟨#[]⟩ : ByteArray) h
/-! ### Texts -/
def lngB (s : ByteArray) : Bool := decide (256 < s.size)
theorem long_any (s : ByteArray) (w : World) (hs : s.size ≤ maxLen) : Calls Try.prog 34 #[.string s] w (Ret (.bool (lngB s)) w) := by
  unfold maxLen at hs
  have HV := Lib.hid (show decide (256 < (s.size : Int)) = lngB s from by unfold lngB; rw [decide_eq_decide]; omega)
  go_enter Try.func34, Try.ntmps34
  go_wp2_with fail
  go_ret
  exact Ret.bool HV.out
/-- Texts that are no longer than memory allows. -/
def ShortT (S : List ByteArray) : Prop := ∀ k, k < S.length → (sAt S k).size ≤ maxLen
set_option maxHeartbeats 1000000 in
theorem idxT_any {P : Nat → Prop} (n : Nat) (T : ByteArray → Bool) (A : Option Addr) (S : List ByteArray) (c : Nat) (w : World) (hS : ElP ES P w A c S) (hl : S.length ≤ 100000) (hs : ShortT S) (hn : ∀ args w, (callFunc n args).run Try.prog w = .ok (.enter n args) w)
    (hT : ∀ (s : ByteArray) (w : World), s.size ≤ maxLen → Calls Try.prog n #[.string s] w (Ret (.bool (T s)) w)) :
    Calls Try.prog 60 #[.slice A S.length c, .func (.func n) #[] #[]] w (Ret (.int .i64 (ixK T S)) w) := by
  have HS := Lib.hid hS
  have HSS := Lib.hid hs
  have HT := Lib.hid hT
  clear hS hs hT
  go_enter Try.func60, Try.ntmps60
  go_wp2_with fail
  go_loop [8] (fun i => ∃ k : Nat, k ≤ S.length ∧ i = .int .i64 k ∧ (∀ j, j < k → T (sAt S j) = false)) (fun i => S.length - (intOf i).toNat)
  case atStart => exact ⟨0, Nat.zero_le _, rfl, fun j hj => absurd hj (by omega)⟩
  case round =>
    obtain ⟨k, hk, rfl, hpre⟩ := hrel
    have HP := Lib.hid hpre
    clear hpre
    by_cases hlt : k < S.length
    · obtain ⟨b, off, rfl, hbl, -, c1⟩ := HS.out.str hlt
      have hkz := HSS.out k hlt
      go_wp2_with fail
      refine ret_pure (HT.out _ _ hkz) ?_
      generalize hx : T (sAt S k) = tv at *
      have HX := Lib.hid hx
      clear hx c1 hkz
      cases tv with
      | true =>
        have HV := Lib.hid (ixT_at hlt HX.out HP.out)
        go_wp2_with fail
        go_ret
        exact Ret.int HV.out.symm
      | false =>
        go_wp2_with fail
        go_round
        case rel =>
          refine ⟨k + 1, by omega, by go_num, fun j hj => ?_⟩
          by_cases hjk : j = k
          · subst hjk; exact HX.out
          · exact HP.out j (by omega)
        case measure => simp [intOf]; omega
    · have HV := Lib.hid (ixT_no (fun j hj => HP.out j (by omega)))
      go_wp2_with fail
      go_ret
      exact Ret.int HV.out.symm
theorem enter_long (args : Array Value) (w : World) : (callFunc 34 args).run Try.prog w = .ok (.enter 34 args) w :=
  Go.MuLone.run_callFunc_enter Try.func34 (by kernel_rfl) rfl args w
theorem anyLong_any {P : Nat → Prop} (A : Option Addr) (S : List ByteArray) (c : Nat) (w : World) (hS : ElP ES P w A c S) (hl : S.length ≤ 100000) (hs : ShortT S) :
    Calls Try.prog 37 #[.slice A S.length c, .func (.func 34) #[] #[]] w (Ret (.bool (S.any lngB)) w) := by
  have HV := Lib.hid (ixK_any (⟨#[]⟩ : ByteArray) lngB S)
  have HC := Lib.hid (idxT_any 34 lngB A S c w hS hl hs enter_long long_any)
  clear hS hs
  go_enter Try.func37, Try.ntmps37
  go_wp2_with fail
  refine ret_pure HC.out ?_
  generalize ixK lngB S = i at *
  go_wp2_with fail
  go_ret
  exact Ret.bool HV.out
def hasS (S : List ByteArray) (v : ByteArray) : Bool := S.any (eqS v)
set_option maxHeartbeats 1000000 in
theorem index_str {P : Nat → Prop} (v : ByteArray) (A : Option Addr) (S : List ByteArray) (c : Nat) (w : World) (hS : ElP ES P w A c S) (hl : S.length ≤ 100000) :
    Calls Try.prog 64 #[.slice A S.length c, .string v] w (Ret (.int .i64 (ixK (eqS v) S)) w) := by
  have HS := Lib.hid hS
  clear hS
  go_enter Try.func64, Try.ntmps64
  go_wp2_with fail
  go_loop [8] (fun i => ∃ k : Nat, k ≤ S.length ∧ i = .int .i64 k ∧ (∀ j, j < k → eqS v (sAt S j) = false)) (fun i => S.length - (intOf i).toNat)
  case atStart => exact ⟨0, Nat.zero_le _, rfl, fun j hj => absurd hj (by omega)⟩
  case round =>
    obtain ⟨k, hk, rfl, hpre⟩ := hrel
    have HP := Lib.hid hpre
    clear hpre
    by_cases hlt : k < S.length
    · obtain ⟨b, off, rfl, hbl, -, c1⟩ := HS.out.str hlt
      cases hx : eqS v (sAt S k) with
      | true =>
        have HV := Lib.hid (ixT_at (T := eqS v) hlt hx HP.out)
        have he : (v.toList == (sAt S k).toList) = true := hx
        clear hx
        go_wp2_with fail
        go_ret
        exact Ret.int HV.out.symm
      | false =>
        have HX := Lib.hid hx
        have he : (v.toList == (sAt S k).toList) = false := hx
        clear hx
        go_wp2_with fail
        go_round
        case rel =>
          refine ⟨k + 1, by omega, by go_num, fun j hj => ?_⟩
          by_cases hjk : j = k
          · subst hjk; exact HX.out
          · exact HP.out j (by omega)
        case measure => simp [intOf]; omega
    · have HV := Lib.hid (ixT_no (T := eqS v) (fun j hj => HP.out j (by omega)))
      go_wp2_with fail
      go_ret
      exact Ret.int HV.out.symm
theorem contains_str {P : Nat → Prop} (v : ByteArray) (A : Option Addr) (S : List ByteArray) (c : Nat) (w : World) (hS : ElP ES P w A c S) (hl : S.length ≤ 100000) :
    Calls Try.prog 51 #[.slice A S.length c, .string v] w (Ret (.bool (hasS S v)) w) := by
  have HV := Lib.hid (show decide (0 ≤ ixK (eqS v) S) = hasS S v from ixK_any (⟨#[]⟩ : ByteArray) (eqS v) S)
  have HC := Lib.hid (index_str v A S c w hS hl)
  clear hS
  go_enter Try.func51, Try.ntmps51
  go_wp2_with fail
  refine ret_pure HC.out ?_
  generalize ixK (eqS v) S = i at *
  go_wp2_with fail
  go_ret
  exact Ret.bool HV.out
/-! ### Equal lists -/
noncomputable def sameT (S T : List ByteArray) : Bool := @decide (S = T) (Classical.propDecidable _)
theorem sameT_iff {S T : List ByteArray} : sameT S T = true ↔ S = T := @decide_eq_true_iff _ (Classical.propDecidable _)
theorem sameT_no {S T : List ByteArray} (h : S ≠ T) : false = sameT S T := (@decide_eq_false _ (Classical.propDecidable _) h).symm
theorem sameT_len {S T : List ByteArray} (h : S.length ≠ T.length) : false = sameT S T := sameT_no fun e => h (by rw [e])
theorem sameT_at {S T : List ByteArray} (k : Nat) (h : sAt S k ≠ sAt T k) : false = sameT S T := sameT_no fun e => h (by rw [e])
theorem sameT_all {S T : List ByteArray} (hl : S.length = T.length) (h : S.take S.length = T.take S.length) : true = sameT S T := by
  rw [List.take_length, hl, List.take_length] at h
  exact (sameT_iff.2 h).symm
set_option maxHeartbeats 1000000 in
theorem equalT_any {P P' : Nat → Prop} (A A' : Option Addr) (S T : List ByteArray) (c c' : Nat) (w : World) (hS : ElP ES P w A c S) (hT : ElP ES P' w A' c' T) (hl : S.length ≤ 100000) :
    Calls Try.prog 73 #[.slice A S.length c, .slice A' T.length c'] w (RetB (.bool (sameT S T)) w) := by
  have HS := Lib.hid hS
  have HT := Lib.hid hT
  clear hS hT
  by_cases hlen : S.length = T.length
  · have HL := Lib.hid hlen
    have heq : ((S.length : Int) != (T.length : Int)) = false := by simp [hlen]
    have hl2 : S.length ≤ T.length := by omega
    have hl3 : T.length ≤ S.length := by omega
    clear hlen
    go_enter Try.func73, Try.ntmps73
    go_wp2_with fail
    go_loopw [13] (fun i wr => ∃ k : Nat, k ≤ S.length ∧ i = .int .i64 k ∧ S.take k = T.take k ∧ Below w.heap.size w wr) (fun i _ => S.length - (intOf i).toNat)
    case atStart => exact ⟨0, Nat.zero_le _, rfl, rfl, Below.refl _ _⟩
    case round =>
      obtain ⟨k, hk, rfl, hpre, hbr⟩ := hrel
      have HP := Lib.hid hpre
      clear hpre
      by_cases hlt : k < S.length
      · obtain ⟨b, off, rfl, hbl, -, q1⟩ := (HS.out.below hbr).str hlt
        obtain ⟨b', off', rfl, hbl', -, r1⟩ := (HT.out.below hbr).str (show k < T.length by omega)
        have hk0 : (0 : Int) ≤ (k : Int) := by omega
        have hkl : (k : Int) < (S.length : Int) := by omega
        have hkm : (k : Int) < (T.length : Int) := by omega
        cases hx : eqS (sAt S k) (sAt T k) with
        | true =>
          have HT1 := Lib.hid (take_s hlt)
          have HT2 := Lib.hid (take_s (show k < T.length by omega))
          have E1 := Lib.hid (eqS_iff.1 hx)
          have f1 : ((sAt S k).toList == (sAt T k).toList) = true := hx
          clear hx
          generalize sAt S k = t1 at *
          generalize sAt T k = t2 at *
          go_wp2_with fail
          go_quiet (fail)
          go_wp2_with fail
          go_roundw
          case rel => exact ⟨k + 1, by omega, by go_num, by rw [HT1.out, HT2.out, HP.out, E1.out], below_drewN hbr _⟩
          case measure => simp [intOf]; omega
        | false =>
          have HV := Lib.hid (sameT_at k (eqS_no.1 hx))
          have f1 : ((sAt S k).toList == (sAt T k).toList) = false := hx
          clear hx
          generalize sAt S k = t1 at *
          generalize sAt T k = t2 at *
          go_wp2_with fail
          go_quiet (fail)
          go_wp2_with fail
          go_ret
          exact RetB.bool HV.out (below_drewN hbr _)
      · have HV := Lib.hid (show true = sameT S T from sameT_all HL.out (by have := HP.out; rw [show k = S.length by omega] at this; exact this))
        go_wp2_with fail
        go_ret
        exact RetB.bool HV.out hbr
  · have HV := Lib.hid (sameT_len hlen)
    have heq : ((S.length : Int) != (T.length : Int)) = true := by simp; omega
    clear hlen
    go_enter Try.func73, Try.ntmps73
    go_wp2_with fail
    go_ret
    exact RetB.bool HV.out (Below.refl _ _)
set_option maxHeartbeats 1000000 in
theorem sameTexts_any {P P' : Nat → Prop} (A A' : Option Addr) (S T : List ByteArray) (c c' : Nat) (w : World) (hS : ElP ES P w A c S) (hT : ElP ES P' w A' c' T) (hl : S.length ≤ 100000) :
    Calls Try.prog 41 #[.slice A S.length c, .slice A' T.length c'] w (RetB (.bool (sameT S T)) w) := by
  have HS := Lib.hid hS
  have HT := Lib.hid hT
  clear hS hT
  by_cases hlen : S.length = T.length
  · have HL := Lib.hid hlen
    have heq : ((S.length : Int) != (T.length : Int)) = false := by simp [hlen]
    have hl2 : S.length ≤ T.length := by omega
    have hl3 : T.length ≤ S.length := by omega
    clear hlen
    go_enter Try.func41, Try.ntmps41
    go_wp2_with fail
    go_loopw [14] (fun i wr => ∃ k : Nat, k ≤ S.length ∧ i = .int .i64 k ∧ S.take k = T.take k ∧ Below w.heap.size w wr) (fun i _ => S.length - (intOf i).toNat)
    case atStart => exact ⟨0, Nat.zero_le _, rfl, rfl, Below.refl _ _⟩
    case round =>
      obtain ⟨k, hk, rfl, hpre, hbr⟩ := hrel
      have HP := Lib.hid hpre
      clear hpre
      by_cases hlt : k < S.length
      · obtain ⟨b, off, rfl, hbl, -, q1⟩ := (HS.out.below hbr).str hlt
        obtain ⟨b', off', rfl, hbl', -, r1⟩ := (HT.out.below hbr).str (show k < T.length by omega)
        have hk0 : (0 : Int) ≤ (k : Int) := by omega
        have hkl : (k : Int) < (S.length : Int) := by omega
        have hkm : (k : Int) < (T.length : Int) := by omega
        cases hx : eqS (sAt T k) (sAt S k) with
        | true =>
          have HT1 := Lib.hid (take_s hlt)
          have HT2 := Lib.hid (take_s (show k < T.length by omega))
          have E1 := Lib.hid (eqS_iff.1 hx)
          have f1 : ((sAt T k).toList == (sAt S k).toList) = true := hx
          clear hx
          generalize sAt S k = t1 at *
          generalize sAt T k = t2 at *
          go_wp2_with fail
          go_roundw
          case rel => exact ⟨k + 1, by omega, by go_num, by rw [HT1.out, HT2.out, HP.out, E1.out], hbr⟩
          case measure => simp [intOf]; omega
        | false =>
          have HV := Lib.hid (sameT_at (S := S) (T := T) k (fun e => (eqS_no.1 hx) e.symm))
          have f1 : ((sAt T k).toList == (sAt S k).toList) = false := hx
          clear hx
          generalize sAt S k = t1 at *
          generalize sAt T k = t2 at *
          go_wp2_with fail
          go_ret
          exact RetB.bool HV.out hbr
      · have HV := Lib.hid (show true = sameT S T from sameT_all HL.out (by have := HP.out; rw [show k = S.length by omega] at this; exact this))
        go_wp2_with fail
        go_ret
        exact RetB.bool HV.out hbr
  · have HV := Lib.hid (sameT_len hlen)
    have heq : ((S.length : Int) != (T.length : Int)) = true := by simp; omega
    clear hlen
    go_enter Try.func41, Try.ntmps41
    go_wp2_with fail
    go_ret
    exact RetB.bool HV.out (Below.refl _ _)
end Go.Proofs.Ytjckpammcgeloaa
namespace Go.Proofs.Ytjckpammcgeloaa
open Go.RowKit

theorem ixC_at {T : CouD → Bool} {S : List CouD} {k : Nat} (hk : k < S.length) (h : T (cAt S k) = true) (hp : ∀ j, j < k → T (cAt S j) = false) : ixK T S = k := ixK_at (⟨0, ⟨#[]⟩, []⟩ : CouD) hk h hp
theorem ixC_no {T : CouD → Bool} {S : List CouD} (h : ∀ j, j < S.length → T (cAt S j) = false) : ixK T S = -1 := ixK_no (⟨0, ⟨#[]⟩, []⟩ : CouD) h
theorem ixC_cases (T : CouD → Bool) (S : List CouD) : (ixK T S = -1 ∧ ∀ j, j < S.length → T (cAt S j) = false) ∨ ∃ k : Nat, ixK T S = k ∧ k < S.length ∧ T (cAt S k) = true ∧ ∀ j, j < k → T (cAt S j) = false := by
  rcases ixK_cases (⟨0, ⟨#[]⟩, []⟩ : CouD) T S with ⟨h1, -, h2⟩ | ⟨k, h1, h2, h3, -, h4⟩
  · exact .inl ⟨h1, h2⟩
  · exact .inr ⟨k, h1, h2, h3, h4⟩
theorem CousP.elem {P : Nat → Prop} {w : World} {A : Option Addr} {c : Nat} {C : List CouD} (h : CousP P w A c C) {k : Nat} (hk : k < C.length) : ∃ b off x, A = some ⟨b, off, none⟩ ∧ b < w.heap.size ∧ P b ∧ w.cell? ⟨b, off + k * 3, none⟩ = some (.int .i64 x.id) ∧ w.cell? ⟨b, off + k * 3 + 1, none⟩ = some (.string x.o) ∧ w.cell? ⟨b, off + k * 3 + 2, none⟩ = some (.slice x.A x.n x.c) ∧ CouR P w x (cAt C k) := by
  obtain ⟨X, h1, h2⟩ := h
  obtain ⟨b, off, e, hlt, hP, hc⟩ := h1.one (vAt_get (show k < X.length by rw [h2.len]; exact hk))
  exact ⟨b, off, vAt X k, e, hlt, hP, hc 0 (by show 0 < 3; omega), hc 1 (by show 1 < 3; omega), hc 2 (by show 2 < 3; omega), h2.at_ k hk⟩
set_option maxHeartbeats 1000000 in
theorem idxC_any {P : Nat → Prop} (n : Nat) (u : Value) (T : CouD → Bool) (A : Option Addr) (C : List CouD) (c : Nat) (w : World) (hC : CousP P w A c C) (hl : C.length ≤ 100000) (hn : ∀ args w, (callFunc n args).run Try.prog w = .ok (.enter n args) w)
    (hT : ∀ (W : World) (x : CouV) (d : CouD), Below w.heap.size w W → CouR P W x d → Calls Try.prog n #[couV x, u] W (RetB (.bool (T d)) W)) :
    Calls Try.prog 49 #[.slice A C.length c, .func (.func n) #[] #[u]] w (RetB (.int .i64 (ixK T C)) w) := by
  have HC := Lib.hid hC
  have HT := Lib.hid hT
  clear hC hT
  go_enter Try.func49, Try.ntmps49
  go_wp2_with fail
  go_loopw [8] (fun i wr => ∃ k : Nat, k ≤ C.length ∧ i = .int .i64 k ∧ (∀ j, j < k → T (cAt C j) = false) ∧ Below w.heap.size w wr) (fun i _ => C.length - (intOf i).toNat)
  case atStart => exact ⟨0, Nat.zero_le _, rfl, fun j hj => absurd hj (by omega), Below.refl _ _⟩
  case round =>
    obtain ⟨k, hk, rfl, hpre, hbr⟩ := hrel
    have HP := Lib.hid hpre
    clear hpre
    by_cases hlt : k < C.length
    · obtain ⟨b, off, x, rfl, hbl, -, c0, c1, c2, hx⟩ := (HC.out.below hbr).elem hlt
      have hk0 : (0 : Int) ≤ (k : Int) := by omega
      have hkl : (k : Int) < (C.length : Int) := by omega
      go_wp2_with fail
      refine ret_below (HT.out _ x _ hbr hx) fun w2 hb2 => ?_
      generalize hx : T (cAt C k) = tv at *
      have HX := Lib.hid hx
      clear hx c0 c1 c2
      have hbw := below_trans hbr hb2
      cases tv with
      | true =>
        have HV := Lib.hid (ixC_at hlt HX.out HP.out)
        go_wp2_with fail
        go_ret
        exact RetB.int HV.out.symm hbw
      | false =>
        go_wp2_with fail
        go_roundw
        case rel =>
          refine ⟨k + 1, by omega, by go_num, fun j hj => ?_, hbw⟩
          by_cases hjk : j = k
          · subst hjk; exact HX.out
          · exact HP.out j (by omega)
        case measure => simp [intOf]; omega
    · have HV := Lib.hid (ixC_no (T := T) (fun j hj => HP.out j (by omega)))
      go_wp2_with fail
      go_ret
      exact RetB.int HV.out.symm hbr
def isId (id : Int) (d : CouD) : Bool := d.id == id
def fndC (C : List CouD) (id : Int) : Int := ixK (isId id) C
theorem find1_any {P : Nat → Prop} (p : Nat) (id : Int) (w : World) (x : CouV) (d : CouD) (hp : p < w.heap.size) (hc : w.cell? ⟨p, 0, none⟩ = some (.int .i64 id)) (hx : CouR P w x d) :
    Calls Try.prog 50 #[couV x, .pointer (some ⟨p, 0, none⟩)] w (RetB (.bool (isId id d)) w) := by
  have HV := Lib.hid (show (x.id == id) = isId id d from by unfold isId; rw [hx.id])
  clear hx
  go_enter Try.func50, Try.ntmps50
  go_wp2_with fail
  go_ret
  exact RetB.bool HV.out (below_alloc _ _)
theorem enter_find1 (args : Array Value) (w : World) : (callFunc 50 args).run Try.prog w = .ok (.enter 50 args) w :=
  Go.MuLone.run_callFunc_enter Try.func50 (by kernel_rfl) rfl args w
set_option maxHeartbeats 1000000 in
theorem find_any {P : Nat → Prop} (v : Value) (id : Int) (D : DeskD) (w : World) (hD : DeskR P w v D) (hl : D.cs.length ≤ 100000) :
    Calls Try.prog 27 #[v, .int .i64 id] w (RetB (.int .i64 (fndC D.cs id)) w) := by
  obtain ⟨A, ca, B, cb, rfl, h1, h2⟩ := hD
  have H1 := Lib.hid h1
  clear h1 h2
  go_enter Try.func27, Try.ntmps27
  go_wp2_with fail
  refine gen_calls fun w1 hw1 => ?_
  have hb : Below w.heap.size w w1 := by rw [hw1]; exact bl_alloc _ (below_alloc _ _)
  have hp : w.heap.size + 1 < w1.heap.size := by rw [hw1]; simp
  have hc : w1.cell? ⟨w.heap.size + 1, 0, none⟩ = some (.int .i64 id) := by rw [hw1]; have h := heap_alloc_new (w.alloc (.cells #[.slice A D.cs.length ca, .slice B D.ks.length cb] 30)) (.cells #[.int .i64 id] 3); rw [show (w.alloc (.cells #[.slice A D.cs.length ca, .slice B D.ks.length cb] 30)).heap.size = w.heap.size + 1 from by simp] at h; rw [cell_of_row _ _ 0 _ _ (0, 0) h]; rfl
  clear hw1
  have HC := Lib.hid (idxC_any 50 (.pointer (some ⟨w.heap.size + 1, 0, none⟩)) (isId id) A D.cs ca w1 (H1.out.below hb) hl enter_find1 (fun W x d hbW hx => find1_any (w.heap.size + 1) id W x d (Nat.lt_of_lt_of_le hp hbW.size) ((hbW.cell hp).trans hc) hx))
  clear hc
  refine ret_below HC.out fun w2 hb2 => ?_
  go_wp2_with fail
  go_ret
  exact RetB.int rfl (below_trans hb hb2)
set_option maxHeartbeats 1000000 in
theorem refFind_any {P : Nat → Prop} (A : Option Addr) (C : List CouD) (c : Nat) (id : Int) (w : World) (hC : CousP P w A c C) (hl : C.length ≤ 100000) :
    Calls Try.prog 39 #[.slice A C.length c, .int .i64 id] w (Ret (.int .i64 (fndC C id)) w) := by
  have HC := Lib.hid hC
  clear hC
  go_enter Try.func39, Try.ntmps39
  go_wp2_with fail
  go_loop [5] (fun i => ∃ k : Nat, k ≤ C.length ∧ i = .int .i64 k ∧ (∀ j, j < k → isId id (cAt C j) = false)) (fun i => C.length - (intOf i).toNat)
  case atStart => exact ⟨0, Nat.zero_le _, rfl, fun j hj => absurd hj (by omega)⟩
  case round =>
    obtain ⟨k, hk, rfl, hpre⟩ := hrel
    have HP := Lib.hid hpre
    clear hpre
    by_cases hlt : k < C.length
    · obtain ⟨b, off, x, rfl, hbl, -, c0, c1, c2, hx⟩ := HC.out.elem hlt
      have hk0 : (0 : Int) ≤ (k : Int) := by omega
      have hkl : (k : Int) < (C.length : Int) := by omega
      cases hx2 : isId id (cAt C k) with
      | true =>
        have HV := Lib.hid (ixC_at hlt hx2 HP.out)
        have he : (x.id == id) = true := by rw [hx.id]; exact hx2
        clear hx2 hx
        go_wp2_with fail
        go_ret
        exact Ret.int HV.out.symm
      | false =>
        have HX := Lib.hid hx2
        have he : (x.id == id) = false := by rw [hx.id]; exact hx2
        clear hx2 hx
        go_wp2_with fail
        go_round
        case rel =>
          refine ⟨k + 1, by omega, by go_num, fun j hj => ?_⟩
          by_cases hjk : j = k
          · subst hjk; exact HX.out
          · exact HP.out j (by omega)
        case measure => simp [intOf]; omega
    · have HV := Lib.hid (ixC_no (T := isId id) (fun j hj => HP.out j (by omega)))
      go_wp2_with fail
      go_ret
      exact Ret.int HV.out.symm
end Go.Proofs.Ytjckpammcgeloaa
namespace Go.Proofs.Ytjckpammcgeloaa
open Go.RowKit

section
variable (o1 o2 : Operand) (x y : Int) (w : World)
theorem bt_gtr (h : y < x) : (do Go.eqGuard .gtr 3 o1 o2 (.int .i64 x) (.int .i64 y); Go.binOp .gtr 3 (.int .i64 x) (.int .i64 y) : Sem Value).run Try.prog w = .ok (.bool true) w := by go_simp
theorem bf_gtr (h : x ≤ y) : (do Go.eqGuard .gtr 3 o1 o2 (.int .i64 x) (.int .i64 y); Go.binOp .gtr 3 (.int .i64 x) (.int .i64 y) : Sem Value).run Try.prog w = .ok (.bool false) w := by
  have : decide (y < x) = false := decide_eq_false (by omega)
  go_simp <;> omega
theorem bt_lss (h : x < y) : (do Go.eqGuard .lss 3 o1 o2 (.int .i64 x) (.int .i64 y); Go.binOp .lss 3 (.int .i64 x) (.int .i64 y) : Sem Value).run Try.prog w = .ok (.bool true) w := by go_simp
theorem bf_lss (h : y ≤ x) : (do Go.eqGuard .lss 3 o1 o2 (.int .i64 x) (.int .i64 y); Go.binOp .lss 3 (.int .i64 x) (.int .i64 y) : Sem Value).run Try.prog w = .ok (.bool false) w := by
  have : decide (x < y) = false := decide_eq_false (by omega)
  go_simp <;> omega
theorem bt_leq (h : x ≤ y) : (do Go.eqGuard .leq 3 o1 o2 (.int .i64 x) (.int .i64 y); Go.binOp .leq 3 (.int .i64 x) (.int .i64 y) : Sem Value).run Try.prog w = .ok (.bool true) w := by go_simp
theorem bf_leq (h : y < x) : (do Go.eqGuard .leq 3 o1 o2 (.int .i64 x) (.int .i64 y); Go.binOp .leq 3 (.int .i64 x) (.int .i64 y) : Sem Value).run Try.prog w = .ok (.bool false) w := by
  have : decide (x ≤ y) = false := decide_eq_false (by omega)
  go_simp <;> omega
theorem bt_geq (h : y ≤ x) : (do Go.eqGuard .geq 3 o1 o2 (.int .i64 x) (.int .i64 y); Go.binOp .geq 3 (.int .i64 x) (.int .i64 y) : Sem Value).run Try.prog w = .ok (.bool true) w := by go_simp
theorem bf_geq (h : x < y) : (do Go.eqGuard .geq 3 o1 o2 (.int .i64 x) (.int .i64 y); Go.binOp .geq 3 (.int .i64 x) (.int .i64 y) : Sem Value).run Try.prog w = .ok (.bool false) w := by
  have : decide (y ≤ x) = false := decide_eq_false (by omega)
  go_simp <;> omega
theorem bt_eql (h : (x == y) = true) : (do Go.eqGuard .eql 3 o1 o2 (.int .i64 x) (.int .i64 y); Go.binOp .eql 3 (.int .i64 x) (.int .i64 y) : Sem Value).run Try.prog w = .ok (.bool true) w := by go_simp
theorem bf_eql (h : (x == y) = false) : (do Go.eqGuard .eql 3 o1 o2 (.int .i64 x) (.int .i64 y); Go.binOp .eql 3 (.int .i64 x) (.int .i64 y) : Sem Value).run Try.prog w = .ok (.bool false) w := by go_simp
theorem bt_neq (h : (x == y) = false) : (do Go.eqGuard .neq 3 o1 o2 (.int .i64 x) (.int .i64 y); Go.binOp .neq 3 (.int .i64 x) (.int .i64 y) : Sem Value).run Try.prog w = .ok (.bool true) w := by
  have h2 : (x != y) = true := by simp [bne, h]
  go_simp
theorem bf_neq (h : (x == y) = true) : (do Go.eqGuard .neq 3 o1 o2 (.int .i64 x) (.int .i64 y); Go.binOp .neq 3 (.int .i64 x) (.int .i64 y) : Sem Value).run Try.prog w = .ok (.bool false) w := by
  have h2 : (x != y) = false := by simp [bne, h]
  go_simp
theorem b_sub1 (m : Nat) (hm : m ≤ 1000000) : (do Go.eqGuard .sub 3 o1 o2 (.int .i64 ((m + 1 : Nat) : Int)) (.int .i64 1); Go.binOp .sub 3 (.int .i64 ((m + 1 : Nat) : Int)) (.int .i64 1) : Sem Value).run Try.prog w = .ok (.int .i64 (m : Int)) w := by
  have e : ((m + 1 : Nat) : Int) - 1 = (m : Int) := by omega
  have h1 : IntKind.wrap .i64 (m : Int) = (m : Int) := by unfold IntKind.wrap; simp [IntKind.bits, IntKind.signed]; omega
  have h2 : IntKind.wrap .i64 (((m + 1 : Nat) : Int) - 1) = (m : Int) := by rw [e, h1]
  simp only [Go.eqGuard]
  go_simp
theorem b_prev {k m : Nat} (hk : k = m + 1) (hm : k ≤ 1000000) : (do Go.eqGuard .sub 3 o1 o2 (.int .i64 (k : Int)) (.int .i64 1); Go.binOp .sub 3 (.int .i64 (k : Int)) (.int .i64 1) : Sem Value).run Try.prog w = .ok (.int .i64 (m : Int)) w := by subst hk; exact b_sub1 o1 o2 w m (by omega)
end
section
variable (o1 o2 : Operand) (x y : ByteArray) (w : World)
theorem bt_eqS (h : (x.toList == y.toList) = true) : (do Go.eqGuard .eql 9 o1 o2 (.string x) (.string y); Go.binOp .eql 9 (.string x) (.string y) : Sem Value).run Try.prog w = .ok (.bool true) w := by go_simp
theorem bf_eqS (h : (x.toList == y.toList) = false) : (do Go.eqGuard .eql 9 o1 o2 (.string x) (.string y); Go.binOp .eql 9 (.string x) (.string y) : Sem Value).run Try.prog w = .ok (.bool false) w := by go_simp
theorem bt_neS (h : (x.toList == y.toList) = false) : (do Go.eqGuard .neq 9 o1 o2 (.string x) (.string y); Go.binOp .neq 9 (.string x) (.string y) : Sem Value).run Try.prog w = .ok (.bool true) w := by go_simp
theorem bf_neS (h : (x.toList == y.toList) = true) : (do Go.eqGuard .neq 9 o1 o2 (.string x) (.string y); Go.binOp .neq 9 (.string x) (.string y) : Sem Value).run Try.prog w = .ok (.bool false) w := by go_simp
end
end Go.Proofs.Ytjckpammcgeloaa
