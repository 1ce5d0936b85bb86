/-
  Lists of shares one behind the other: slices.Grow, slices.Concat.
  Gifts: all values of a gift.
  Gifts: their forms.
  Gifts: the program's form.
  Gifts: forms compared by the program.
  Gifts: attacker.Differs.
  Gifts: lists of shares compared by the document.
  Conditions: those that each theorem names.
-/
import Derived.Test.YtjckpammcgeloaaDoorM8
import Derived.Laws.AppendOwnNone
set_option linter.unusedVariables false
set_option linter.unusedSimpArgs false
namespace Go.Proofs.YtjckpammcgeloaaDoor
open Go.RowKit
attribute [local go_sem high] sliced_low

theorem run_app_zero_newS (ty : TypeId) {w : World} {m : Nat} (hm : 0 < m) (hl : m ≤ 1000000) :
    ∃ cap cs w', (Builtin.append_ #[33, 3] ty #[.slice none 0 0, .int .i64 (m : Int)]).run Tryd.prog w = .ok (.slice (some ⟨w.heap.size, 0, none⟩) m cap) w' ∧ w'.heap[w.heap.size]? = some (.cells cs 35 (0, 0)) ∧ cs.size = cap * 2 ∧ m ≤ cap ∧ cap ≤ maxLen ∧ Below w.heap.size w w' := by
  obtain ⟨i, hi, hz, hsz, hby⟩ := info_parts info_share
  have hw : IntKind.i64.wrap (m : Int) = (m : Int) := IntWalk.i64_in _ (by omega)
  have h1 : ¬ ((m : Int) < 0) := by omega
  have h2 : ¬ (281474976710656 < (m : Int) * i.bytes) := by rw [hby]; omega
  have h63' : ¬ (9223372036854775807 < (m : Int)) := by omega
  have h48' : ¬ (281474976710656 < Builtin.nextslicecap m 0 * i.bytes) := by
    have := growslice_fits (need := m) (old := 0) (bytes := i.bytes) (by omega) (by rw [hby]; omega)
    omega
  have hm0 : ¬ m = 0 := by omega
  have hm2 : ¬ m * 2 = 0 := by omega
  have hge := grownCap_ge w m 0 35
  have hcm2 : grownCap w m 0 35 ≤ maxLen := grownCap_le_maxLen w m 0 35 (by unfold maxLen; omega)
  have hz2 : (Value.agg #[Value.int .i64 0, .slice none 0 0]).cells = #[Value.int .i64 0, .slice none 0 0] := rfl
  refine ⟨grownCap w m 0 35, Builtin.zeroCells #[Value.int .i64 0, .slice none 0 0] m ++ Builtin.zeroCells #[Value.int .i64 0, .slice none 0 0] (grownCap w m 0 35 - m), _, ?_, heap_alloc_new w.drew _, ?_, hge, hcm2, (Below.refl _ _).drew.alloc (Nat.le_refl _) _⟩
  · simp [Builtin.append_, run_underlying Tryd.underlying33, sizeOf, typeInfo, zeroValue, hi, hz, hw, h1, h2, h63', h48', hm0, Question.forced, asInt, asIntOf, hsz, Builtin.firstCells, newRow, grownCap, hz2]
    intro h; omega
  · simp only [Array.size_append, size_zeroCells, show (#[Value.int .i64 0, Value.slice none 0 0] : Array Value).size = 2 from rfl]
    omega

theorem app_zeroS {ops : Array Oper} {rest : List Oper} {o : Oper} {a : Act} {Q : Exit → Act → World → Prop} (hgd : o.guard = none) (s x : Operand)
    (ho : o.op = .call { callee := .builtin .append, args := #[s, x], argTypes := #[33, 3] })
    {w : World} (m : Nat) (hs : a.eval s = .slice none 0 0) (hx : a.eval x = .int .i64 (m : Int)) (hm : 0 < m) (hl : m ≤ 1000000)
    (h : ∀ cap w', HvOwn w' w.heap.size (.slice (some ⟨w.heap.size, 0, none⟩) 0 cap) [] → m ≤ cap → Below w.heap.size w w' → wpList Tryd.prog ops Q rest (a.put o.dst (.slice (some ⟨w.heap.size, 0, none⟩) m cap)) w') :
    wpList Tryd.prog ops Q (o :: rest) a w := by
  refine wpList_plain hgd fun _ hK => ?_
  obtain ⟨cap, cs, w', hr, hh, hcs, hnc, hcm, hb⟩ := run_app_zero_newS o.type (w := w) hm hl
  unfold Oper.wp execOp
  simp only [ho, resolve, invoke, builtin, Sem.run_bind, Sem.run_pure, Result.andThen_ok, List.map_toArray, List.map_cons, List.map_nil, hs, hx, hr]
  exact hK _ _ (h cap w' ⟨rfl, .inr ⟨w.heap.size, cap, cs, rfl, Nat.le_refl _, hh, Nat.zero_le _, hcm, hcs, rfl⟩⟩ hnc hb)
/-- The call returns an empty row of the own with room. -/
def RoomP (w : World) (e : Ending) (w' : World) : Prop := ∃ v, e = .returned v ∧ HvOwn w' w.heap.size v [] ∧ Below w.heap.size w w'
set_option maxRecDepth 100000 in
set_option maxHeartbeats 1000000 in
theorem grow_any (n : Nat) (w : World) (hn : 0 < n) (hn2 : n ≤ 1000000) :
    Calls Tryd.prog 61 #[.slice none 0 0, .int .i64 (n : Int)] w (RoomP w) := by
  have t1 : decide ((0 : Int) < (n : Int)) = true := decide_eq_true (by omega)
  go_enter Tryd.func61, Tryd.ntmps61
  go_wp2_with (first | (at_builtin; refine app_zeroS rfl (.tmp 20) (.tmp 21) rfl n rfl rfl hn hn2 ?_; intro cap w' hown hcap hb; have HOW := Lib.hid hown; clear hown; have hc0 : (0 : Int) ≤ (cap : Int) := (by omega)) | fail)
  go_ret
  exact ⟨_, rfl, HOW.out, hb⟩

/-! ### One list behind the other -/
/-- A row of the own whose shares' numbers lie below B. -/
def CatV (B : Nat) (w : World) (v : Value) (U : List Shr) : Prop :=
  ∃ H : List HV, HvOwn w B v H ∧ H.length = U.length ∧ ∀ k, k < U.length → (hvAt H k).1 = hS U k ∧ ∃ C c, (hvAt H k).2 = .slice C (vS U k).length c ∧ IntsP (fun b => b < B) w C c (vS U k)
theorem CatV.nil {B : Nat} {w : World} {v : Value} (h : HvOwn w B v []) : CatV B w v [] := ⟨[], h, rfl, fun k hk => absurd hk (by simp)⟩
theorem app_cat {ops : Array Oper} {rest : List Oper} {o : Oper} {a : Act} {Q : Exit → Act → World → Prop} (hgd : o.guard = none) (s x : Operand)
    (ho : o.op = .call { callee := .builtin .append, args := #[s, x], argTypes := #[33, 33] })
    {B : Nat} {w : World} {v : Value} {U T : List Shr} {A : Option Addr} {n c : Nat} (hs : a.eval s = v) (h : CatV B w v U) (hx : a.eval x = .slice A n c) (hn : n = T.length) (hT : ShP (fun b => b < B) w A c T) (hl : U.length ≤ 500000) (hl2 : T.length ≤ 500000) (hB : B ≤ w.heap.size)
    (hK : ∀ v' w', CatV B w' v' (U ++ T) → Below B w w' → wpList Tryd.prog ops Q rest (a.put o.dst v') w') :
    wpList Tryd.prog ops Q (o :: rest) a w := by
  subst hn
  obtain ⟨i0, hi, hz0, hz1, hz2⟩ := info_parts info_share
  obtain ⟨H, h1, h2, h3⟩ := h
  rcases A with _ | ad
  · have hc := hT.ok.nil rfl
    have : T = [] := List.eq_nil_of_length_eq_zero (by have := hT.ok.len; omega)
    subst this
    subst hc
    refine wpList_append_own_none hgd s x 33 ho B 35 i0 2 Tryd.underlying33 hi v H.length (flatH H) hs h1 hx ?_
    exact hK v w (by rw [List.append_nil]; exact ⟨H, h1, h2, h3⟩) (Below.refl _ _)
  · obtain ⟨H', g1, g2, g3⟩ := hT.flat
    refine wpList_append_own w hgd s x 33 ho B 35 i0 _ 2 32 Tryd.underlying33 hi hz0 hz1 hz2 rfl (by omega) v H.length (flatH H) hs h1 ad T.length c (flatH H') hx (by rw [flatH_len, g1]) g3 (flatH_one H' (fun k hk => by obtain ⟨-, C, c', e, -⟩ := g2 k (by omega); rw [e]; rfl)) (by unfold maxLen; omega) (by omega) hB ?_
    intro v' w' q2 q3 _
    have hb : Below B w w' := (Below.refl _ _).grown q3 hB (fun k hk => (World.ownsRow.lt h1 k hk).1)
    have hown : HvOwn w' B v' (H ++ H') := by unfold HvOwn; rw [List.length_append, flatH_append, g1]; exact q2
    have kp : ∀ {C : Option Addr} {c : Nat} {L : List Int}, IntsP (fun b => b < B) w C c L → IntsP (fun b => b < B) w' C c L := fun hI => hI.keep (Kept.app hb)
    refine hK v' w' ⟨H ++ H', hown, by simp [h2, g1], fun k hk => ?_⟩ hb
    rcases Nat.lt_or_ge k U.length with hk1 | hk1
    · obtain ⟨e1, C, c', e2, e3⟩ := h3 k hk1
      rw [hvAt_append (by omega), (hS_append hk1).1, (hS_append hk1).2]
      exact ⟨e1, C, c', e2, kp e3⟩
    · have hk2 : k - U.length < T.length := by simp at hk; omega
      obtain ⟨e1, C, c', e2, e3⟩ := g2 (k - U.length) hk2
      have q1 : hvAt (H ++ H') k = hvAt H' (k - U.length) := by
        simp only [hvAt, List.getD_eq_getElem?_getD]
        rw [List.getElem?_append_right (by omega), h2]
      have q4 : hS (U ++ T) k = hS T (k - U.length) ∧ vS (U ++ T) k = vS T (k - U.length) := by
        simp only [hS, vS, List.getD_eq_getElem?_getD]
        rw [List.getElem?_append_right hk1]
        exact ⟨rfl, rfl⟩
      rw [q1, q4.1, q4.2]
      exact ⟨e1, C, c', e2, kp e3⟩
theorem CatV.read {B : Nat} {w : World} {v : Value} {U : List Shr} (h : CatV B w v U) : ∃ A c, v = .slice A U.length c ∧ ShP (fun _ => True) w A c U := by
  obtain ⟨H, h1, h2, h3⟩ := h
  have hR : RowsV (fun b => b < B) w B v U := ⟨H, h1, h2, fun k hk => by
    obtain ⟨e1, C, c, e2, e3⟩ := h3 k hk
    exact ⟨e1, C, c, e2, e3.mono (fun b _ hb => ⟨hb, fun e => by have := (World.ownsRow.lt h1 b e).1; omega⟩)⟩⟩
  obtain ⟨A, c, e, h4⟩ := hR.read
  exact ⟨A, c, e, h4.any⟩
def catN (Ls : Nat → List Shr) : Nat → List Shr
  | 0 => []
  | k + 1 => catN Ls k ++ Ls k
theorem catN_len3 {Ls : Nat → List Shr} (h : ∀ k, k < 3 → (Ls k).length ≤ 100000) : ∀ k, k ≤ 3 → (catN Ls k).length ≤ k * 100000
  | 0, _ => by simp [catN]
  | k + 1, hk => by
    have := catN_len3 h k (by omega)
    have := h k (by omega)
    simp only [catN, List.length_append]; omega

set_option maxRecDepth 100000 in
set_option maxHeartbeats 4000000 in
theorem concat_any (lg : Nat) (As : Nat → Option Addr) (cs : Nat → Nat) (Ls : Nat → List Shr) (w : World) (hlit : ∀ k, k < 3 → w.cell? ⟨lg, k, none⟩ = some (.slice (As k) (Ls k).length (cs k))) (hlg : lg < w.heap.size) (hS : ∀ k, k < 3 → ShP (fun b => b < w.heap.size) w (As k) (cs k) (Ls k)) (hl : ∀ k, k < 3 → (Ls k).length ≤ 100000) (hpos : 0 < (Ls 2).length) :
    Calls Tryd.prog 52 #[.slice (some ⟨lg, 0, none⟩) 3 3] w (fun e w' => ∃ A c, e = .returned (.slice A (catN Ls 3).length c) ∧ ShP (fun _ => True) w' A c (catN Ls 3) ∧ Below w.heap.size w w') := by
  have HLIT := Lib.hid hlit
  have HS := Lib.hid hS
  have HLN := Lib.hid (catN_len3 hl)
  have HL := Lib.hid hl
  have hn0 : 0 < (catN Ls 3).length := by simp only [catN, List.length_append]; omega
  have hn1 := HLN.out 3 (by omega)
  clear hlit hS hl hpos
  go_enter Tryd.func52, Tryd.ntmps52
  go_wp2_with fail
  go_loop [3, 11] (fun s i => ∃ k : Nat, k ≤ 3 ∧ i = .int .i64 k ∧ s = .int .i64 (catN Ls k).length) (fun _ i => 3 - (intOf i).toNat)
  case atStart => exact ⟨0, Nat.zero_le _, rfl, rfl⟩
  case round =>
    obtain ⟨k, hk, rfl, rfl⟩ := hrel
    by_cases hlt : k < 3
    · have q0 := HLIT.out k hlt
      have hk1 := HLN.out k hk
      have hk2 := HL.out k hlt
      have HSM := Lib.hid (show ((catN Ls k).length : Int) + ((Ls k).length : Int) = ((catN Ls (k + 1)).length : Int) by simp only [catN, List.length_append]; omega)
      generalize (catN Ls k).length = m at *
      generalize (Ls k).length = m2 at *
      have i0 : (0 : Int) ≤ (k : Int) := by omega
      have i1 : (k : Int) < 3 := by omega
      have t1 : ¬ ((m : Int) + (m2 : Int) < 0) := by omega
      go_wp2_with fail
      go_round
      case rel => exact ⟨k + 1, by omega, by go_num, by rw [← HSM.out]⟩
      case measure => simp [intOf]; omega
    · obtain rfl : k = 3 := by omega
      generalize hm : (catN Ls 3).length = m at *
      have HM := Lib.hid hm
      clear hm
      go_wp2_with fail
      refine (grow_any m w hn0 (by omega)).mono ?_
      rintro e w1 ⟨v, rfl, hown, hb1⟩
      have HC := Lib.hid (CatV.nil hown)
      have HB1 := Lib.hid hb1
      clear hown hb1
      go_wp2_with fail
      go_loopw [6, 27] (fun v i wr => ∃ k : Nat, k ≤ 3 ∧ i = .int .i64 k ∧ CatV w.heap.size wr v (catN Ls k) ∧ Below w.heap.size w wr) (fun _ i _ => 3 - (intOf i).toNat)
      case atStart => exact ⟨0, Nat.zero_le _, rfl, HC.out, HB1.out⟩
      case round =>
        obtain ⟨k, hk, rfl, hcat, hbr⟩ := hrel
        by_cases hlt : k < 3
        · have q0 := (hbr.cell (p := ⟨lg, k, none⟩) hlg).trans (HLIT.out k hlt)
          have hk1 := HLN.out k hk
          have hk2 := HL.out k hlt
          have i0 : (0 : Int) ≤ (k : Int) := by omega
          have i1 : (k : Int) < 3 := by omega
          have HCT := Lib.hid hcat
          have HSK := Lib.hid ((HS.out k hlt).below hbr)
          have HCE := Lib.hid (show catN Ls (k + 1) = catN Ls k ++ Ls k from rfl)
          have hsz := hbr.size
          have HLK := Lib.hid (rfl : (Ls k).length = (Ls k).length)
          clear hcat
          go_wp2_with (first | (at_builtin; refine app_cat rfl (.tmp 31) (.tmp 32) rfl (B := w.heap.size) (v := u6) (U := catN Ls k) (T := Ls k) rfl HCT.out rfl rfl HSK.out (by omega) (by omega) hsz ?_; intro v' w' hc' hb'; have HN := Lib.hid (And.intro hc' (hbr.trans hb')); clear hc' hb' q0) | fail)
          go_roundw
          case rel => exact ⟨k + 1, by omega, by go_num, by rw [HCE.out]; exact HN.out.1, HN.out.2⟩
          case measure => simp [intOf]; omega
        · obtain rfl : k = 3 := by omega
          obtain ⟨A, c, rfl, hsh⟩ := hcat.read
          have HX := Lib.hid hsh
          have HM2 := HM
          clear hsh hcat
          go_wp2_with fail
          go_ret
          exact ⟨A, c, rfl, HX.out, hbr⟩
end Go.Proofs.YtjckpammcgeloaaDoor
namespace Go.Proofs.YtjckpammcgeloaaDoor
open Go.RowKit

theorem app_intsA {ops : Array Oper} {rest : List Oper} {o : Oper} {a : Act} {Q : Exit → Act → World → Prop} (hgd : o.guard = none) (s x : Operand)
    (ho : o.op = .call { callee := .builtin .append, args := #[s, x], argTypes := #[22, 22] })
    {base : Nat} {w : World} {v : Value} {L M : List Int} {A : Option Addr} {n c : Nat} (hs : a.eval s = v) (h : w.ownsRow base 3 1 v L.length (valsI L)) (hx : a.eval x = .slice A n c) (hn : n = M.length) (hM : IntsAt w A M) (hok : IOK A c M.length) (hl : L.length ≤ 1000000000) (hl2 : M.length ≤ 1000000000) (hB : base ≤ w.heap.size)
    (hK : ∀ v' w', w'.ownsRow base 3 1 v' (L ++ M).length (valsI (L ++ M)) → Below base w w' → wpList Tryd.prog ops Q rest (a.put o.dst v') w') :
    wpList Tryd.prog ops Q (o :: rest) a w := by
  subst hn
  obtain ⟨i0, hi, hz0, hz1, hz2⟩ := info_parts info_int
  rcases A with _ | ad
  · have hc := hok.nil rfl
    have : M = [] := List.eq_nil_of_length_eq_zero (by have := hok.len; omega)
    subst this
    subst hc
    refine wpList_append_own_none hgd s x 22 ho base 3 i0 1 Tryd.underlying22 hi v L.length (valsI L) hs h hx ?_
    exact hK v w (by rw [List.append_nil]; exact h) (Below.refl _ _)
  · refine wpList_append_own w hgd s x 22 ho base 3 i0 _ 1 8 Tryd.underlying22 hi hz0 hz1 hz2 rfl (by omega) v L.length (valsI L) hs h ad M.length c (valsI M) hx (by simp [valsI]) (hM.news (hok.spot.elim .inl (fun g => .inr (g ad rfl)))) (valsI_one M) (by unfold maxLen; omega) (by omega) hB ?_
    intro v' w' q2 q3 _
    refine hK v' w' ?_ ((Below.refl _ _).grown q3 hB (fun k hk => (World.ownsRow.lt h k hk).1))
    rw [List.length_append]; simpa [valsI] using q2
/-- The values of the first shares. -/
def vlsK (U : List Shr) : Nat → List Int
  | 0 => []
  | k + 1 => vlsK U k ++ vS U k
theorem vlsK_len {U : List Shr} (h : ∀ k, k < U.length → (vS U k).length ≤ 1000) : ∀ k, k ≤ U.length → (vlsK U k).length ≤ k * 1000
  | 0, _ => by simp [vlsK]
  | k + 1, hk => by
    have := vlsK_len h k (by omega)
    have := h k (by omega)
    simp only [vlsK, List.length_append]; omega
def allS (G : GiftD) : List Shr := G.bx ++ G.wh ++ [(G.kh, G.kv)]
def valsG (G : GiftD) : List Int := vlsK (allS G) (allS G).length
/-- Gifts of few and short shares. -/
structure GTiny (G : GiftD) : Prop where
  b : ∀ k, k < G.bx.length → (vS G.bx k).length ≤ 1000
  w : ∀ k, k < G.wh.length → (vS G.wh k).length ≤ 1000
  k : G.kv.length ≤ 1000
  bl : G.bx.length ≤ 1000
  wl : G.wh.length ≤ 1000
theorem GTiny.small {G : GiftD} (h : GTiny G) : GSmall G := ⟨fun k hk => by have := h.b k hk; omega, fun k hk => by have := h.w k hk; omega, by have := h.k; omega, by have := h.bl; omega, by have := h.wl; omega⟩
theorem vS_app {S T : List Shr} {k : Nat} : vS (S ++ T) k = if k < S.length then vS S k else vS T (k - S.length) := by
  simp only [vS, List.getD_eq_getElem?_getD]
  by_cases h : k < S.length
  · rw [List.getElem?_append_left h, if_pos h]
  · rw [List.getElem?_append_right (by omega), if_neg h]
theorem hS_app {S T : List Shr} {k : Nat} : hS (S ++ T) k = if k < S.length then hS S k else hS T (k - S.length) := by
  simp only [hS, List.getD_eq_getElem?_getD]
  by_cases h : k < S.length
  · rw [List.getElem?_append_left h, if_pos h]
  · rw [List.getElem?_append_right (by omega), if_neg h]
theorem GTiny.all {G : GiftD} (h : GTiny G) : (∀ k, k < (allS G).length → (vS (allS G) k).length ≤ 1000) ∧ (allS G).length ≤ 2001 := by
  refine ⟨fun k hk => ?_, by simp only [allS, List.length_append, List.length_singleton]; have := h.bl; have := h.wl; omega⟩
  unfold allS
  rw [vS_app]
  split
  · rename_i h1
    rw [vS_app]
    split
    · exact h.b _ (by assumption)
    · rw [List.length_append] at h1
      exact h.w _ (by omega)
  · rename_i h1
    have : k - (G.bx ++ G.wh).length = 0 := by simp only [allS, List.length_append, List.length_singleton] at hk h1 ⊢; omega
    rw [this]; exact h.k
/-- The call returns a list of numbers. -/
def NewInts (L : List Int) (w : World) (e : Ending) (w' : World) : Prop := ∃ A c, e = .returned (.slice A L.length c) ∧ IntsAt w' A L ∧ Below w.heap.size w w'
def as3 (A B C : Option Addr) (k : Nat) : Option Addr := if k = 0 then A else if k = 1 then B else C
def cs3 (a b c : Nat) (k : Nat) : Nat := if k = 0 then a else if k = 1 then b else c
def ls3 (S T U : List Shr) (k : Nat) : List Shr := if k = 0 then S else if k = 1 then T else U

set_option maxRecDepth 100000 in
set_option maxHeartbeats 4000000 in
theorem gVals_any {P : Nat → Prop} (u : Value) (G : GiftD) (w : World) (hG : GiftR P w u G) (sG : GTiny G) : Calls Tryd.prog 35 #[u] w (NewInts (valsG G) w) := by
  obtain ⟨A, ca, B, cb, C, cc, rfl, h1, h2, h3⟩ := hG
  have HAL := Lib.hid sG.all
  obtain ⟨s1, s2, s3, s4, s5⟩ := sG
  have HVL := Lib.hid (vlsK_len HAL.out.1)
  obtain ⟨gh, S, T, gkh, M⟩ := G
  simp only at *
  have H1 := Lib.hid (h1.mono (Q := fun b => b < w.heap.size) (fun b hb _ => hb))
  have H2 := Lib.hid (h2.mono (Q := fun b => b < w.heap.size) (fun b hb _ => hb))
  have H3 := Lib.hid (h3.mono (Q := fun b => b < w.heap.size) (fun b hb _ => hb))
  have HCN := Lib.hid (show catN (ls3 S T [(gkh, M)]) 3 = allS ⟨gh, S, T, gkh, M⟩ from by simp [catN, ls3, allS])
  have HVG := Lib.hid (show vlsK (allS ⟨gh, S, T, gkh, M⟩) (allS ⟨gh, S, T, gkh, M⟩).length = valsG ⟨gh, S, T, gkh, M⟩ from rfl)
  clear h1 h2 h3 s1 s2
  go_enter Tryd.func35, Tryd.ntmps35
  go_wp2_with fail
  refine gen_calls fun w1 hw1 => ?_
  have hb1 : Below w.heap.size w w1 := by rw [hw1]; exact bl_alloc _ (bl_alloc _ (below_alloc _ _))
  have hz1 : w1.heap.size = w.heap.size + 3 := by rw [hw1]; simp
  have hlt : w1.heap[w.heap.size + 1]? = some (.cells #[.int .i64 gkh, .slice C M.length cc] 35 (0, 0)) := by rw [hw1]; exact ((below_alloc _ _).block _ (by simp)).trans (by simpa using heap_alloc_new (w.alloc _) _)
  have hlg : w1.heap[w.heap.size + 1 + 1]? = some (.cells #[.slice A S.length ca, .slice B T.length cb, .slice (some ⟨w.heap.size + 1, 0, none⟩) 1 1] 33 (0, 0)) := by rw [hw1]; simpa using heap_alloc_new ((w.alloc _).alloc _) _
  clear hw1
  have hsh : ∀ k, k < 3 → ShP (fun b => b < w1.heap.size) w1 (as3 A B (some ⟨w.heap.size + 1, 0, none⟩) k) (cs3 ca cb 1 k) (ls3 S T [(gkh, M)] k) := fun k hk => by
    have : k = 0 ∨ k = 1 ∨ k = 2 := by omega
    rcases this with rfl | rfl | rfl
    · exact (H1.out.below hb1).mono (fun b hb _ => hb)
    · exact (H2.out.below hb1).mono (fun b hb _ => hb)
    · exact lit_one hlt (by show _ < _; omega) ((H3.out.keep (Kept.below hb1)).mono (fun b hb _ => hb))
  refine (concat_any (w.heap.size + 1 + 1) (as3 A B (some ⟨w.heap.size + 1, 0, none⟩)) (cs3 ca cb 1) (ls3 S T [(gkh, M)]) w1 (fun k hk => ?_) (by omega) hsh (fun k hk => ?_) (by simp [ls3])).mono ?_
  · have : k = 0 ∨ k = 1 ∨ k = 2 := by omega
    rcases this with rfl | rfl | rfl
    · rw [cell_of_row w1 _ 0 _ _ (0, 0) hlg]; rfl
    · rw [cell_of_row w1 _ 1 _ _ (0, 0) hlg]; rfl
    · rw [cell_of_row w1 _ 2 _ _ (0, 0) hlg]; rfl
  · have : k = 0 ∨ k = 1 ∨ k = 2 := by omega
    rcases this with rfl | rfl | rfl
    · show S.length ≤ _; omega
    · show T.length ≤ _; omega
    · show 1 ≤ _; omega
  rintro e w2 ⟨XA, xc, rfl, hX, hb2⟩
  rw [HCN.out] at hX ⊢
  have HX := Lib.hid hX
  have HB2 := Lib.hid (below_trans hb1 hb2)
  have hz2 := hb2.size
  have hal := HAL.out.2
  clear hX hb1 hb2 hlt hlg hsh
  generalize allS ⟨gh, S, T, gkh, M⟩ = U at *
  go_wp2_with fail
  go_loopw [3, 16] (fun o i wr => ∃ k : Nat, k ≤ U.length ∧ i = .int .i64 k ∧ wr.ownsRow w2.heap.size 3 1 o (vlsK U k).length (valsI (vlsK U k)) ∧ Below w2.heap.size w2 wr) (fun _ i _ => U.length - (intOf i).toNat)
  case atStart => exact ⟨0, Nat.zero_le _, rfl, World.ownsRow_nil _ _ _ _, Below.refl _ _⟩
  case round =>
    obtain ⟨k, hk, rfl, hown, hbr⟩ := hrel
    have HOW := Lib.hid hown
    have hlk := HVL.out k hk
    have hsz := hbr.size
    obtain ⟨OA, oc, rfl, -⟩ := own_ints hown rfl
    by_cases hlt : k < U.length
    · obtain ⟨b, off, D, dc, rfl, hb, -, x0, x1, x2⟩ := (HX.out.below hbr).at_ k hlt
      have hvk := HAL.out.1 k hlt
      have HVE := Lib.hid (show vlsK U (k + 1) = vlsK U k ++ vS U k from rfl)
      have HD := Lib.hid x2
      have i0 : (0 : Int) ≤ (k : Int) := by omega
      have i1 : (k : Int) < (U.length : Int) := by omega
      generalize vS U k = L at *
      generalize hvl : vlsK U k = VL at *
      clear hown x2 hvl
      go_wp2_with (first | (at_builtin; refine app_intsA rfl (.tmp 20) (.tmp 22) rfl (base := w2.heap.size) (v := .slice OA VL.length oc) (L := VL) (M := L) rfl (own_below HOW.out (below_alloc _ _)) rfl rfl ((HD.out.keep (Kept.below (below_alloc _ _))).ints) HD.out.ok (by omega) (by omega) (by simp; omega) ?_; intro v' w' hown' hb'; have HN := Lib.hid (And.intro hown' ((hbr.trans ((below_alloc wr _).mono hsz)).trans hb')); clear hown' hb') | fail)
      go_roundw
      case rel => exact ⟨k + 1, by omega, by go_num, by rw [HVE.out]; exact HN.out.1, HN.out.2⟩
      case measure => simp [intOf]; omega
    · obtain rfl : k = U.length := by omega
      obtain ⟨OB, oc2, e, hI, -⟩ := own_ints hown rfl
      injection e with e1 e2 e3
      subst e1; subst e3
      have HI := Lib.hid hI
      clear hown hI
      generalize vlsK U U.length = VL at *
      have HF := Lib.hid (show NewInts (valsG ⟨gh, S, T, gkh, M⟩) w (.returned (.slice OA VL.length oc)) wr from by rw [← HVG.out]; exact ⟨OA, oc, rfl, HI.out, below_trans HB2.out hbr⟩)
      go_wp2_with fail
      go_ret
      exact HF.out
end Go.Proofs.YtjckpammcgeloaaDoor
namespace Go.Proofs.YtjckpammcgeloaaDoor
open Go.RowKit

/-- Of whom the first shares are, and how many values they have. -/
def shpK (S : List Shr) : Nat → List Int
  | 0 => []
  | k + 1 => shpK S k ++ [hS S k, ((vS S k).length : Int)]
def shpL (S : List Shr) : List Int := shpK S S.length
theorem shpK_len (S : List Shr) : ∀ k, (shpK S k).length = k * 2
  | 0 => rfl
  | k + 1 => by simp only [shpK, List.length_append, shpK_len S k, List.length_cons, List.length_nil]; omega
/-- Three rows of numbers, under way, in an array. -/
structure Fm (w : World) (ax base : Nat) (vs : Nat → Value) (Fs : Nat → List Int) : Prop where
  lo : ax < base
  arr : w.heap[ax]? = some (.cells #[vs 0, vs 1, vs 2] 59 (0, 0))
  row : ∀ j, j < 3 → w.ownsRow base 3 1 (vs j) (Fs j).length (valsI (Fs j))
  dis : ∀ i j, i < 3 → j < 3 → i ≠ j → ∀ b, (vs i).ownBlock = some b → (vs j).ownBlock = some b → False
def fset {α : Type} (f : Nat → α) (i : Nat) (x : α) : Nat → α := fun j => if j = i then x else f j
theorem fset_same {α : Type} (f : Nat → α) (i : Nat) (x : α) : fset f i x i = x := if_pos rfl
theorem fset_other {α : Type} (f : Nat → α) {i j : Nat} (x : α) (h : j ≠ i) : fset f i x j = f j := if_neg h
theorem Fm.cell {w : World} {ax base : Nat} {vs : Nat → Value} {Fs : Nat → List Int} (h : Fm w ax base vs Fs) {i : Nat} (hi : i < 3) : w.cell? ⟨ax, i, none⟩ = some (vs i) := by
  rw [cell_of_row w ax i _ _ (0, 0) h.arr]
  have : i = 0 ∨ i = 1 ∨ i = 2 := by omega
  rcases this with rfl | rfl | rfl <;> rfl
theorem Fm.frozen {w : World} {ax base : Nat} {vs : Nat → Value} {Fs : Nat → List Int} (h : Fm w ax base vs Fs) (j : Nat) : w.frozen? ⟨ax, j, none⟩ = false := by simp [World.frozen?, h.arr]
theorem Fm.below {w w' : World} {ax base : Nat} {vs : Nat → Value} {Fs : Nat → List Int} (h : Fm w ax base vs Fs) (hb : Below w.heap.size w w') : Fm w' ax base vs Fs :=
  ⟨h.lo, (hb.block ax (blk_lt h.arr)).trans h.arr, fun j hj => own_below (h.row j hj) hb, h.dis⟩
theorem set_arr3 (vs : Nat → Value) {i : Nat} (hi : i < 3) (u : Value) : (#[vs 0, vs 1, vs 2] : Array Value).setIfInBounds i u = #[fset vs i u 0, fset vs i u 1, fset vs i u 2] := by
  have : i = 0 ∨ i = 1 ∨ i = 2 := by omega
  rcases this with rfl | rfl | rfl <;> rfl
theorem ia_arr3 (w : World) (ax : Nat) {i : Nat} (hi : i < 3) : (Instr.indexAt 59 (.pointer (some ⟨ax, 0, none⟩)) (.int .i64 (i : Int))).run Tryd.prog w = .ok (.pointer (some ⟨ax, i, none⟩)) w := by
  have : i = 0 ∨ i = 1 ∨ i = 2 := by omega
  rcases this with rfl | rfl | rfl
  · go_simp
  · go_simp
  · go_simp
theorem ld_ints {w : World} {a : Addr} {v : Value} (h : w.cell? a = some v) : (Instr.loadAt 22 (.pointer (some a))).run Tryd.prog w = .ok v w := by go_simp
theorem st_ints {w : World} {a : Addr} {v : Value} (h : w.cell? a = some v) (hf : w.frozen? a = false) (A : Option Addr) (n c : Nat) : (Instr.storeAt 22 (.pointer (some a)) (slV A n c)).run Tryd.prog w = .ok () (w.setCell a (slV A n c)) := by go_simp
theorem fa_s0 (w : World) (x : Nat) : (Instr.fieldAt 35 (.pointer (some ⟨x, 0, none⟩)) 0).run Tryd.prog w = .ok (.pointer (some ⟨x, 0, none⟩)) w := by go_simp
theorem fa_s1 (w : World) (x : Nat) : (Instr.fieldAt 35 (.pointer (some ⟨x, 0, none⟩)) 1).run Tryd.prog w = .ok (.pointer (some ⟨x, 1, none⟩)) w := by go_simp
theorem ld_s0 {w : World} {x : Nat} {y : Int} {v : Value} (H : ShCell w x y v) : (Instr.loadAt 3 (.pointer (some ⟨x, 0, none⟩))).run Tryd.prog w = .ok (.int .i64 y) w := by
  have h0 := H.c0
  go_simp
theorem ShCell.sav {X : Nat → Prop} {w w' : World} {x : Nat} {y : Int} {v : Value} (H : ShCell w x y v) (hs : Sav X w w') (hX : ¬ X x) : ShCell w' x y v := (hs.block x H.lt hX).trans H
theorem J_len {ops : Array Oper} {o : Oper} {a : Act} {K : Act → World → Prop} {Q : Exit → Act → World → Prop} {E : Prop} {w : World} (hgd : o.guard = none) (x : Operand) (ho : o.op = .call { callee := .builtin .len, args := #[x], argTypes := #[22] }) {A : Option Addr} {n c : Nat} (hx : a.eval x = .slice A n c)
    (hK : K (a.put o.dst (.int .i64 n)) w) : if Region.wanted o (yielded ops a.tmps) = true then Oper.wp Tryd.prog o a w K Q else E :=
  J_val hgd (by
    unfold execOp; rw [ho]
    simp only [resolve, invoke, builtin, Sem.run_bind, Sem.run_pure, Result.andThen_ok, List.map_toArray, List.map_cons, List.map_nil, hx]
    go_simp) hK

/-- One round of a form, under way. -/
structure FoI (W0 : World) (ax sx base : Nat) (vs : Nat → Value) (Fs : Nat → List Int) (i : Nat) (x : Int) (D : Option Addr) (n dc : Nat) (V : Nat → Value) (Ld : Nat → Bool) (w : World) : Prop where
  sv : Sav (fun b => b = ax ∨ (vs i).ownBlock = some b) W0 w
  v0 : Ld 0 = true → V 0 = .int .i64 (i : Int)
  v1 : Ld 1 = true → V 1 = .int .i64 (i : Int)
  v2 : Ld 2 = true → V 2 = .pointer (some ⟨ax, i, none⟩)
  v3 : Ld 3 = true → V 3 = vs i
  v4 : Ld 4 = true → V 4 = .pointer (some ⟨sx, 0, none⟩)
  v5 : Ld 5 = true → V 5 = .int .i64 x
  v6 : Ld 6 = true → V 6 = .pointer (some ⟨sx, 1, none⟩)
  v7 : Ld 7 = true → V 7 = slV D n dc
  v8 : Ld 8 = true → V 8 = .int .i64 (n : Int)
  v9 : Ld 9 = true → ∃ g0, V 9 = .slice (some ⟨g0, 0, none⟩) 2 2 ∧ (Ld 10 = false → IntsAt w (some ⟨g0, 0, none⟩) [x, (n : Int)])
  r0 : Ld 10 = false → w.ownsRow base 3 1 (vs i) (Fs i).length (valsI (Fs i))
  v10 : Ld 10 = true → ∃ g cap, V 10 = slV (some ⟨g, 0, none⟩) ((Fs i).length + 2) cap ∧ w.ownsRow base 3 1 (V 10) ((Fs i).length + 2) (valsI (Fs i ++ [x, (n : Int)])) ∧ ((vs i).ownBlock = some g ∨ W0.heap.size ≤ g)
  v11 : Ld 11 = true → V 11 = .pointer (some ⟨ax, i, none⟩)
  d12 : Ld 12 = true → Ld 10 = true
  d3 : Ld 10 = true → Ld 3 = true
  rc0 : Ld 12 = false → w.heap[ax]? = some (.cells #[vs 0, vs 1, vs 2] 59 (0, 0))
  rc1 : Ld 12 = true → w.heap[ax]? = some (.cells #[fset vs i (V 10) 0, fset vs i (V 10) 1, fset vs i (V 10) 2] 59 (0, 0))
section
variable {W0 : World} {ax sx base : Nat} {vs : Nat → Value} {Fs : Nat → List Int} {i : Nat} {x : Int} {D : Option Addr} {n dc : Nat} {V : Nat → Value} {Ld : Nat → Bool} {w w' : World}
theorem FoI.lit (h : FoI W0 ax sx base vs Fs i x D n dc V Ld w) (hax : ax < W0.heap.size) : FoI W0 ax sx base vs Fs i x D n dc (updV V 9 (.slice (some ⟨w.heap.size, 0, none⟩) 2 2)) (upd Ld 9) (w.alloc (.cells #[.int .i64 x, .int .i64 (n : Int)] 3)) := { h with
  sv := h.sv.trans (Sav.of_below (below_alloc _ _))
  v9 := fun _ => ⟨w.heap.size, rfl, fun _ => lit_ints w [x, (n : Int)]⟩
  r0 := fun e => own_below (h.r0 e) (below_alloc _ _)
  v10 := fun e => by obtain ⟨g, cap, e1, e2, e3⟩ := h.v10 e; exact ⟨g, cap, e1, own_below e2 (below_alloc _ _), e3⟩
  rc0 := fun e => ((below_alloc w _).block ax (by have := h.sv.size; omega)).trans (h.rc0 e)
  rc1 := fun e => ((below_alloc w _).block ax (by have := h.sv.size; omega)).trans (h.rc1 e) }
theorem FoI.app (h : FoI W0 ax sx base vs Fs i x D n dc V Ld w) (hax : ax < W0.heap.size) (hab : ax < base) (hL : Ld 10 = false) (h3 : Ld 3 = true) {g cap : Nat} (hown : w'.ownsRow base 3 1 (slV (some ⟨g, 0, none⟩) ((Fs i).length + 2) cap) ((Fs i).length + 2) (valsI (Fs i ++ [x, (n : Int)]))) (hg : w.grownBy w' (vs i).ownBlock) (hat : (vs i).ownBlock = some g ∨ g = w.heap.size) :
    FoI W0 ax sx base vs Fs i x D n dc (updV V 10 (slV (some ⟨g, 0, none⟩) ((Fs i).length + 2) cap)) (upd Ld 10) w' := by
  have hs : Sav (fun b => b = ax ∨ (vs i).ownBlock = some b) w w' := ⟨hg.os, hg.tape, hg.output, hg.size, fun k hk hX => hg.block k hk (fun e => hX (.inr e.symm))⟩
  have hr := h.r0 hL
  have hne : (vs i).ownBlock ≠ some ax := fun e => by have := (World.ownsRow.lt hr ax e).1; omega
  have h12 : Ld 12 = false := by
    cases hq : Ld 12 with
    | false => rfl
    | true => exact nfC hL (h.d12 hq)
  exact { h with
    sv := h.sv.trans hs
    v9 := fun e => by obtain ⟨g0, e1, -⟩ := h.v9 e; exact ⟨g0, e1, fun e => (by cases e)⟩
    r0 := fun e => (by cases e)
    v10 := fun _ => ⟨g, cap, rfl, hown, hat.imp id (fun e => by have := h.sv.size; omega)⟩
    d12 := fun _ => rfl
    d3 := fun _ => h3
    rc0 := fun _ => (hg.block ax (by have := h.sv.size; omega) (fun e => hne e.symm)).trans (h.rc0 h12)
    rc1 := fun e => nfC h12 e }
theorem FoI.st (h : FoI W0 ax sx base vs Fs i x D n dc V Ld w) (hi : i < 3) (hab : ax < base) (hL : Ld 12 = false) (h10 : Ld 10 = true) : ∃ w', (Instr.storeAt 22 (.pointer (some ⟨ax, i, none⟩)) (V 10)).run Tryd.prog w = .ok () w' ∧ FoI W0 ax sx base vs Fs i x D n dc (updV V 12 undef) (upd Ld 12) w' := by
  obtain ⟨g, cap, e1, e2, e3⟩ := h.v10 h10
  have ha := h.rc0 hL
  have hc : w.cell? ⟨ax, i, none⟩ = some (vs i) := by
    rw [cell_of_row w ax i _ _ (0, 0) ha]
    have : i = 0 ∨ i = 1 ∨ i = 2 := by omega
    rcases this with rfl | rfl | rfl <;> rfl
  have hf : w.frozen? ⟨ax, i, none⟩ = false := by simp [World.frozen?, ha]
  have hs : Sav (fun b => b = ax ∨ (vs i).ownBlock = some b) w (w.setCell ⟨ax, i, none⟩ (V 10)) := Sav.set (X := fun b => b = ax ∨ (vs i).ownBlock = some b) _ ⟨ax, i, none⟩ _ (.inl rfl)
  have hne : ∀ b, (V 10).ownBlock = some b → b ≠ ax := fun b e e' => by have := (World.ownsRow.lt e2 b e).1; omega
  refine ⟨w.setCell ⟨ax, i, none⟩ (V 10), by rw [e1]; exact st_ints hc hf _ _ _, ?_⟩
  exact { h with
    sv := h.sv.trans hs
    v9 := fun e => by obtain ⟨g0, q1, -⟩ := h.v9 e; exact ⟨g0, q1, fun e => nfC e h10⟩
    r0 := fun e => nfC e h10
    v10 := fun _ => ⟨g, cap, e1, own_other e2 _ _ (fun b e => hne b e), e3⟩
    d12 := fun _ => h10
    rc0 := fun e => (by cases e)
    rc1 := fun _ => by rw [heap_set_same _ _ _ _ _ _ _ ha, set_arr3 vs hi]; rfl }
/-- What the round leaves. -/
theorem FoI.fin (h : FoI W0 ax sx base vs Fs i x D n dc V Ld w) (hF : Fm W0 ax base vs Fs) (hi : i < 3) (hL : ∀ j, j < 13 → Ld j = true) : Fm w ax base (fset vs i (V 10)) (fset Fs i (Fs i ++ [x, (n : Int)])) ∧ Sav (fun b => b = ax ∨ (vs i).ownBlock = some b) W0 w := by
  obtain ⟨g, cap, e1, e2, e3⟩ := h.v10 (hL 10 (by decide))
  have hob : (V 10).ownBlock = some g := by rw [e1]; rfl
  refine ⟨⟨hF.lo, h.rc1 (hL 12 (by decide)), fun j hj => ?_, fun a b ha hb hab c q1 q2 => ?_⟩, h.sv⟩
  · by_cases hji : j = i
    · subst hji
      rw [fset_same, fset_same, List.length_append]; exact e2
    · rw [fset_other _ _ hji, fset_other _ _ hji]
      refine own_sav (hF.row j hj) h.sv (fun b e hX => ?_)
      rcases hX with hX | hX
      · have := (World.ownsRow.lt (hF.row j hj) b e).1; have := hF.lo; omega
      · exact hF.dis i j hi hj (Ne.symm hji) b hX e
  · have key : ∀ a, a < 3 → a ≠ i → (vs a).ownBlock = some g → False := fun a ha hai e => by
      rcases e3 with e3 | e3
      · exact hF.dis a i ha hi hai g e e3
      · have := (World.ownsRow.lt (hF.row a ha) g e).2; omega
    by_cases h1 : a = i
    · subst h1
      rw [fset_same, hob] at q1
      injection q1 with q1
      rw [fset_other _ _ (Ne.symm hab), ← q1] at q2
      exact key b hb (Ne.symm hab) q2
    · rw [fset_other _ _ h1] at q1
      by_cases h2 : b = i
      · subst h2
        rw [fset_same, hob] at q2
        injection q2 with q2
        rw [← q2] at q1
        exact key a ha h1 q1
      · rw [fset_other _ _ h2] at q2
        exact hF.dis a b ha hb hab c q1 q2
end
theorem J_app2 {ops : Array Oper} {o : Oper} {a : Act} {K : Act → World → Prop} {Q : Exit → Act → World → Prop} {X : Prop} (W : World) (hgd : o.guard = none) (s y : Operand)
    (ho : o.op = .call { callee := .builtin .append, args := #[s, y], argTypes := #[22, 22] })
    {base g0 : Nat} {v : Value} {F M : List Int} (hs : a.eval s = v) (hx : a.eval y = .slice (some ⟨g0, 0, none⟩) M.length M.length) (hM : IntsAt W (some ⟨g0, 0, none⟩) M) (h0 : 0 < M.length) (hown : W.ownsRow base 3 1 v F.length (valsI F)) (hl : F.length ≤ 1000000) (hl2 : M.length ≤ 1000000) (hbase : base ≤ W.heap.size)
    (h : ∀ g cap w', w'.ownsRow base 3 1 (.slice (some ⟨g, 0, none⟩) (F.length + M.length) cap) (F.length + M.length) (valsI (F ++ M)) → W.grownBy w' v.ownBlock → (v.ownBlock = some g ∨ g = W.heap.size) → K (a.put o.dst (.slice (some ⟨g, 0, none⟩) (F.length + M.length) cap)) w') :
    if Region.wanted o (yielded ops a.tmps) = true then Oper.wp Tryd.prog o a W K Q else X := by
  obtain ⟨i0, hi, hz0, hz1, hz2⟩ := info_parts info_int
  refine step_append_lies _ hgd s y 22 ho base 3 i0 _ 1 8 Tryd.underlying22 hi hz0 hz1 hz2 rfl (by omega) v F.length (valsI F) hs hown ⟨g0, 0, none⟩ M.length M.length (valsI M) hx (by simp [valsI]) (hM.news (.inr rfl)) (valsI_one M) (by omega) (by unfold maxLen; omega) (by omega) hbase _ rfl ?_
  intro g cap w' ho' hg hat _
  refine h g cap w' ?_ hg hat
  simpa [valsI] using ho'

end Go.Proofs.YtjckpammcgeloaaDoor
namespace Go.Proofs.YtjckpammcgeloaaDoor
open Go.RowKit

theorem arr_cell {w : World} {ax : Nat} {vs : Nat → Value} {i : Nat} (hi : i < 3) (ha : w.heap[ax]? = some (.cells #[vs 0, vs 1, vs 2] 59 (0, 0))) : w.cell? ⟨ax, i, none⟩ = some (vs i) := by
  rw [cell_of_row w ax i _ _ (0, 0) ha]
  have : i = 0 ∨ i = 1 ∨ i = 2 := by omega
  rcases this with rfl | rfl | rfl <;> rfl
def fkS (Ls : Nat → List Shr) (k : Nat) : Nat → List Int := fun j => if j < k then shpL (Ls j) else []
theorem fkS_start (Ls : Nat → List Shr) (k : Nat) : fset (fkS Ls k) k (shpK (Ls k) 0) = fkS Ls k := by
  funext j
  by_cases h : j = k
  · subst h; rw [fset_same]; simp [fkS, shpK]
  · rw [fset_other _ _ h]
theorem fkS_step (Ls : Nat → List Shr) (k : Nat) (F F' : List Int) : fset (fset (fkS Ls k) k F) k F' = fset (fkS Ls k) k F' := by
  funext j
  by_cases h : j = k
  · subst h; rw [fset_same, fset_same]
  · rw [fset_other _ _ h, fset_other _ _ h, fset_other _ _ h]
theorem fkS_end (Ls : Nat → List Shr) (k : Nat) : fset (fkS Ls k) k (shpL (Ls k)) = fkS Ls (k + 1) := by
  funext j
  by_cases h : j = k
  · subst h; rw [fset_same]; simp [fkS]
  · rw [fset_other _ _ h]
    unfold fkS
    by_cases h2 : j < k
    · rw [if_pos h2, if_pos (by omega)]
    · rw [if_neg h2, if_neg (by omega)]
theorem Fm.sav {X : Nat → Prop} {w w' : World} {ax base : Nat} {vs : Nat → Value} {Fs : Nat → List Int} (h : Fm w ax base vs Fs) (hs : Sav X w w') (hX : ∀ b, X b → b ≠ ax ∧ b < base) : Fm w' ax base vs Fs :=
  ⟨h.lo, (hs.block ax (blk_lt h.arr) (fun e => (hX _ e).1 rfl)).trans h.arr, fun j hj => own_sav (h.row j hj) hs (fun b e hb => by have := (World.ownsRow.lt (h.row j hj) b e).1; have := (hX b hb).2; omega), h.dis⟩
theorem results_arr3 {fn : Func} {t : Tmp} (h : fn.results = #[.cell t 59]) (tmps : Array Value) (w : World) (g : Nat) (hp : tmps.getD t undef = .pointer (some ⟨g, 0, none⟩)) {a b c : Value} (hX : w.heap[g]? = some (.cells #[a, b, c] 59 (0, 0))) :
    (results fn tmps).run Tryd.prog w = .ok (.agg #[a, b, c]) w :=
  results_cell_row h tmps w g 59 _ (0, 0) _ hp hX Tryd.underlying59 rfl (by kernel_rfl)
/-- The call returns a gift's form. -/
def FormP (G : GiftD) (w : World) (e : Ending) (w' : World) : Prop :=
  ∃ A a B b C c, e = .returned (.agg #[slV A (shpL G.bx).length a, slV B (shpL G.wh).length b, slV C (shpL [(G.kh, G.kv)]).length c]) ∧ IntsAt w' A (shpL G.bx) ∧ IntsAt w' B (shpL G.wh) ∧ IntsAt w' C (shpL [(G.kh, G.kv)]) ∧ Below w.heap.size w w'

theorem ints_sav {w w' : World} {X : Nat → Prop} {A : Option Addr} {L : List Int} (h : IntsAt w A L) (hs : Sav X w w') (hX : ∀ b off, A = some ⟨b, off, none⟩ → ¬ X b) : IntsAt w' A L := fun k hk => by
  obtain ⟨b, off, hA, hb, hc⟩ := h k hk
  exact ⟨b, off, hA, Nat.lt_of_lt_of_le hb hs.size, (hs.cell hb (hX b off hA)).trans hc⟩
theorem form_end {w w1 wr : World} {ax : Nat} (r : Nat) (hr : r = w.heap.size + 1) (hb1 : Below w.heap.size w w1) (hsv : Sav (fun b => b = ax) w1 wr) (hz : w1.heap.size = w.heap.size + 4) (hax : w.heap.size ≤ ax) (hrx : wr.heap[r]? = some (.cells #[.slice none 0 0, .slice none 0 0, .slice none 0 0] 59 (0, 0)))
    (A B C : Option Addr) (a b c : Nat) {G : GiftD} (q0 : IntsAt wr A (shpL G.bx)) (q1 : IntsAt wr B (shpL G.wh)) (q2 : IntsAt wr C (shpL [(G.kh, G.kv)])) (l0 : ∀ g, (Value.slice A (shpL G.bx).length a).ownBlock = some g → w1.heap.size ≤ g ∧ g < wr.heap.size) (l1 : ∀ g, (Value.slice B (shpL G.wh).length b).ownBlock = some g → w1.heap.size ≤ g ∧ g < wr.heap.size) (l2 : ∀ g, (Value.slice C (shpL [(G.kh, G.kv)]).length c).ownBlock = some g → w1.heap.size ≤ g ∧ g < wr.heap.size) :
    FormP G w (.returned (.agg #[slV A (shpL G.bx).length a, slV B (shpL G.wh).length b, slV C (shpL [(G.kh, G.kv)]).length c])) (((wr.setCell ⟨r, 0, none⟩ (slV A (shpL G.bx).length a)).setCell ⟨r, 1, none⟩ (slV B (shpL G.wh).length b)).setCell ⟨r, 2, none⟩ (slV C (shpL [(G.kh, G.kv)]).length c)) ∧
    (((wr.setCell ⟨r, 0, none⟩ (slV A (shpL G.bx).length a)).setCell ⟨r, 1, none⟩ (slV B (shpL G.wh).length b)).setCell ⟨r, 2, none⟩ (slV C (shpL [(G.kh, G.kv)]).length c)).heap[r]? = some (.cells #[slV A (shpL G.bx).length a, slV B (shpL G.wh).length b, slV C (shpL [(G.kh, G.kv)]).length c] 59 (0, 0)) := by
  have hs : Sav (fun x => x = r) wr (((wr.setCell ⟨r, 0, none⟩ (slV A (shpL G.bx).length a)).setCell ⟨r, 1, none⟩ (slV B (shpL G.wh).length b)).setCell ⟨r, 2, none⟩ (slV C (shpL [(G.kh, G.kv)]).length c)) := ((Sav.set (X := fun x => x = r) _ ⟨r, 0, none⟩ _ rfl).trans (Sav.set (X := fun x => x = r) _ ⟨r, 1, none⟩ _ rfl)).trans (Sav.set (X := fun x => x = r) _ ⟨r, 2, none⟩ _ rfl)
  have hbl : ∀ (A : Option Addr) (n a : Nat), (∀ g, (Value.slice A n a).ownBlock = some g → w1.heap.size ≤ g ∧ g < wr.heap.size) → ∀ b off, A = some ⟨b, off, none⟩ → ¬ (b = r) := fun A n a h b off e e2 => by
    have := h b (by rw [e]; rfl)
    omega
  refine ⟨⟨A, a, B, b, C, c, rfl, ints_sav q0 hs (hbl _ _ _ l0), ints_sav q1 hs (hbl _ _ _ l1), ints_sav q2 hs (hbl _ _ _ l2), ?_⟩, ?_⟩
  · exact ((Sav.of_below (X := fun x => x = ax ∨ x = r) hb1).trans2 (hsv.mono (fun k _ h => Or.inl h)) (fun k h => Or.inl h) |>.trans2 (hs.mono (fun k _ h => Or.inr h)) (fun k h => Or.inl h)).below _ (Nat.le_refl _) (fun k _ h => by rcases h with h | h <;> omega)
  · rw [heap_set_same _ _ _ _ _ _ _ (heap_set_same _ _ _ _ _ _ _ (heap_set_same _ _ _ _ _ _ _ hrx))]
    rfl

set_option maxRecDepth 100000 in
set_option maxHeartbeats 16000000 in
theorem form_any {P : Nat → Prop} (u : Value) (G : GiftD) (w : World) (hG : GiftR P w u G) (sG : GTiny G) : Calls Tryd.prog 32 #[u] w (FormP G w) := by
  obtain ⟨A, ca, B, cb, C, cc, rfl, h1, h2, h3⟩ := hG
  obtain ⟨s1, s2, s3, s4, s5⟩ := sG
  obtain ⟨gh, S, T, gkh, M⟩ := G
  simp only at *
  have H1 := Lib.hid (h1.mono (Q := fun b => b < w.heap.size) (fun b hb _ => hb))
  have H2 := Lib.hid (h2.mono (Q := fun b => b < w.heap.size) (fun b hb _ => hb))
  have H3 := Lib.hid (h3.mono (Q := fun b => b < w.heap.size) (fun b hb _ => hb))
  have HLL := Lib.hid (show ∀ k : Nat, k < 3 → (ls3 S T [(gkh, M)] k).length ≤ 1000 from fun k hk => by
    have : k = 0 ∨ k = 1 ∨ k = 2 := by omega
    rcases this with rfl | rfl | rfl
    · exact s4
    · exact s5
    · show 1 ≤ 1000; omega)
  clear h1 h2 h3 s1 s2
  go_enter Tryd.func32, Tryd.ntmps32
  go_wp2_with fail
  refine gen_world fun w1 hw1 => ?_
  have hb1 : Below w.heap.size w w1 := by rw [hw1]; exact bl_alloc _ (bl_alloc _ (bl_alloc _ (below_alloc _ _)))
  have hz1 : w1.heap.size = w.heap.size + 4 := by rw [hw1]; simp
  have hrx : w1.heap[w.heap.size + 1]? = some (.cells #[.slice none 0 0, .slice none 0 0, .slice none 0 0] 59 (0, 0)) := by rw [hw1]; exact (bl_alloc _ (below_alloc _ _)).block _ (by simp) |>.trans (by simpa using heap_alloc_new (w.alloc _) _)
  have hax : w1.heap[w.heap.size + 1 + 1]? = some (.cells #[.slice none 0 0, .slice none 0 0, .slice none 0 0] 59 (0, 0)) := by rw [hw1]; exact ((below_alloc _ _).block _ (by simp)).trans (by simpa using heap_alloc_new ((w.alloc _).alloc _) _)
  have hlt : w1.heap[w.heap.size + 1 + 1 + 1]? = some (.cells #[.int .i64 gkh, .slice C M.length cc] 35 (0, 0)) := by rw [hw1]; simpa using heap_alloc_new (((w.alloc _).alloc _).alloc _) _
  clear hw1
  have HSH := Lib.hid (show ∀ k : Nat, k < 3 → ShP (· ≠ w.heap.size + 1 + 1) w1 (as3 A B (some ⟨w.heap.size + 1 + 1 + 1, 0, none⟩) k) (cs3 ca cb 1 k) (ls3 S T [(gkh, M)] k) from fun k hk => by
    have : k = 0 ∨ k = 1 ∨ k = 2 := by omega
    rcases this with rfl | rfl | rfl
    · exact (H1.out.below hb1).mono (fun b _ hb => by show b ≠ _; omega)
    · exact (H2.out.below hb1).mono (fun b _ hb => by show b ≠ _; omega)
    · exact lit_one hlt (by show _ ≠ _; omega) ((H3.out.keep (Kept.below hb1)).mono (fun b _ hb => by show b ≠ _; omega)))
  have HIX := Lib.hid (show ∀ k : Nat, k < 3 → ∀ W : World, (Instr.index 78 (.agg #[.slice A S.length ca, .slice B T.length cb, .slice (some ⟨w.heap.size + 1 + 1 + 1, 0, none⟩) 1 1]) (.int .i64 (k : Int))).run Tryd.prog W = .ok (.slice (as3 A B (some ⟨w.heap.size + 1 + 1 + 1, 0, none⟩) k) (ls3 S T [(gkh, M)] k).length (cs3 ca cb 1 k)) W from fun k hk W => by
    have : k = 0 ∨ k = 1 ∨ k = 2 := by omega
    rcases this with rfl | rfl | rfl
    · go_simp; rfl
    · go_simp; rfl
    · go_simp; rfl)
  have HF0 := Lib.hid (show Fm w1 (w.heap.size + 1 + 1) w1.heap.size (fun _ => .slice none 0 0) (fkS (ls3 S T [(gkh, M)]) 0) from ⟨by omega, hax, fun j hj => by simp only [fkS]; exact World.ownsRow_nil _ _ _ _, fun i j hi hj hij b e => by cases e⟩)
  have HRX := Lib.hid hrx
  have HB1 := Lib.hid hb1
  have HGO := Lib.hid (show ls3 S T [(gkh, M)] 0 = S ∧ ls3 S T [(gkh, M)] 1 = T ∧ ls3 S T [(gkh, M)] 2 = [(gkh, M)] from ⟨rfl, rfl, rfl⟩)
  clear hrx hax hlt hb1 H1 H2 H3
  generalize hLs : ls3 S T [(gkh, M)] = Ls at *
  generalize as3 A B (some ⟨w.heap.size + 1 + 1 + 1, 0, none⟩) = As at *
  generalize cs3 ca cb 1 = Cs at *
  generalize hax : w.heap.size + 1 + 1 = ax at *
  clear hLs
  go_loopw [16] (fun i wr => ∃ (k : Nat) (vs : Nat → Value), k ≤ 3 ∧ i = .int .i64 k ∧ Fm wr ax w1.heap.size vs (fkS Ls k) ∧ Sav (fun b => b = ax) w1 wr) (fun i _ => 3 - (intOf i).toNat)
  case atStart => exact ⟨0, _, Nat.zero_le _, rfl, HF0.out, Sav.refl _ _⟩
  case round =>
    obtain ⟨k, vs, hk, rfl, hF, hsv⟩ := hrel
    have HF := Lib.hid hF
    have HSV := Lib.hid hsv
    have hszr := hsv.size
    clear hF hsv
    by_cases hk3 : k < 3
    · have hix := HIX.out k hk3
      have i0 : (0 : Int) ≤ (k : Int) := by omega
      have i1 : (k : Int) < 3 := by omega
      have hll := HLL.out k hk3
      go_wp2_with fail
      obtain ⟨w0, hw0⟩ : ∃ w0 : World, w0 = wr := ⟨_, rfl⟩
      subst hw0
      go_loopw [22] (fun i wr => ∃ (j : Nat) (vs : Nat → Value), j ≤ (Ls k).length ∧ i = .int .i64 j ∧ Fm wr ax w1.heap.size vs (fset (fkS Ls k) k (shpK (Ls k) j)) ∧ Sav (fun b => b = ax) w1 wr) (fun i _ => (Ls k).length - (intOf i).toNat)
      case atStart => exact ⟨0, vs, Nat.zero_le _, rfl, by rw [fkS_start]; exact HF.out, HSV.out⟩
      case round =>
        obtain ⟨j, vs2, hj, rfl, hF2, hsv2⟩ := hrel
        have HF2 := Lib.hid hF2
        have HSV2 := Lib.hid hsv2
        have hszr2 := hsv2.size
        by_cases hjl : j < (Ls k).length
        · obtain ⟨b, off, D, dc, hA, hb, hbx, x0, x1, x2⟩ := ((HSH.out k hk3).keep (hsv2.kept (fun b hb => hb))).at_ j hjl
          rw [hA]
          have HSP := Lib.hid (show shpK (Ls k) (j + 1) = shpK (Ls k) j ++ [hS (Ls k) j, ((vS (Ls k) j).length : Int)] from rfl)
          have hlF : (fset (fkS Ls k) k (shpK (Ls k) j) k).length ≤ 1000000 := by rw [fset_same, shpK_len]; omega
          have i2 : (0 : Int) ≤ (j : Int) := by omega
          have i3 : (j : Int) < ((Ls k).length : Int) := by omega
          generalize hx : hS (Ls k) j = x at *
          generalize hn : (vS (Ls k) j).length = n at *
          clear hF2 hsv2 x2 hx hn hix
          go_wp2_with fail
          refine gen_world fun w3 hw3 => ?_
          have hb3 : Below wr.heap.size wr w3 := by rw [hw3]; exact below_alloc _ _
          have hz3 : w3.heap.size = wr.heap.size + 1 := by rw [hw3]; simp
          have HSC := Lib.hid (show ShCell w3 wr.heap.size x (.slice D n dc) from by rw [hw3]; exact ShCell.new _ _ rfl)
          clear hw3
          have HF3 := Lib.hid (HF2.out.below hb3)
          have hlo := HF2.out.lo
          have hax3 : ax < w3.heap.size := by omega
          have hsxX : ¬ (wr.heap.size = ax ∨ (vs2 k).ownBlock = some wr.heap.size) := fun e => by
            rcases e with e | e
            · omega
            · have := (World.ownsRow.lt (HF2.out.row k hk3) _ e).2; omega
          have HB3 := Lib.hid hb3
          clear hb3
          refine wp_region_J2 (FoI w3 ax wr.heap.size w1.heap.size vs2 (fset (fkS Ls k) k (shpK (Ls k) j)) k x D n dc) (by kernel_rfl) (by kernel_rfl) (by kernel_rfl) ?_ ?_ ?_
          case refine_1 => exact fun V => ⟨(Sav.refl _ _).trans (Sav.of_below (Below.refl _ _).drew), fun h => nfC rfl h, fun h => nfC rfl h, fun h => nfC rfl h, fun h => nfC rfl h, fun h => nfC rfl h, fun h => nfC rfl h, fun h => nfC rfl h, fun h => nfC rfl h, fun h => nfC rfl h, fun h => nfC rfl h, fun _ => HF3.out.row k hk3, fun h => nfC rfl h, fun h => nfC rfl h, fun h => nfC rfl h, fun h => nfC rfl h, fun _ => HF3.out.arr, fun h => nfC rfl h⟩
          case refine_2 =>
            refine JSteps.cons (fun V Ld a W hLi hpre hR hI K hK => ?_) ?_
            · have e := (hR.old 4 (by kernel_rfl)).trans (show _ = Value.int .i64 (k : Int) from rfl)
              exact J_move rfl (.tmp 4) rfl (hK _ _ { hI with v0 := fun _ => e })
            refine JSteps.cons (fun V Ld a W hLi hpre hR hI K hK => ?_) ?_
            · have e := (hR.old 4 (by kernel_rfl)).trans (show _ = Value.int .i64 (k : Int) from rfl)
              exact J_move rfl (.tmp 4) rfl (hK _ _ { hI with v1 := fun _ => e })
            refine JSteps.cons (fun V Ld a W hLi hpre hR hI K hK => ?_) ?_
            · have p1 : Ld 1 = true := hpre 1 (List.mem_of_elem_eq_true (by kernel_rfl))
              have f1 := (hR.ev 1 rfl rfl p1).trans (hI.v1 p1)
              have e := (hR.old 3 (by kernel_rfl)).trans (show _ = Value.pointer (some ⟨ax, 0, none⟩) from rfl)
              exact J_indexAddr rfl _ (.tmp 3) (.tmp 27) rfl (by rw [e, f1]; exact ia_arr3 W ax hk3) (hK _ _ { hI with v2 := fun _ => rfl })
            refine JSteps.cons (fun V Ld a W hLi hpre hR hI K hK => ?_) ?_
            · have p2 : Ld 2 = true := hpre 2 (List.mem_of_elem_eq_true (by kernel_rfl))
              have f2 := (hR.ev 2 rfl rfl p2).trans (hI.v2 p2)
              have h10 : Ld 10 = false := by
                cases hq : Ld 10 with
                | false => rfl
                | true => exact nfC hLi (hI.d3 hq)
              have h12 : Ld 12 = false := by
                cases hq : Ld 12 with
                | false => rfl
                | true => exact nfC h10 (hI.d12 hq)
              exact J_load rfl _ (.tmp 28) rfl (by rw [f2]; exact ld_ints (arr_cell hk3 (hI.rc0 h12))) (hK _ _ { hI with v3 := fun _ => rfl, d3 := fun _ => rfl })
            refine JSteps.cons (fun V Ld a W hLi hpre hR hI K hK => ?_) ?_
            · have e := (hR.old 7 (by kernel_rfl)).trans (show _ = Value.pointer (some ⟨wr.heap.size, 0, none⟩) from rfl)
              exact J_fieldAddr rfl _ (.tmp 7) 0 rfl (by rw [e]; exact fa_s0 W wr.heap.size) (hK _ _ { hI with v4 := fun _ => rfl })
            refine JSteps.cons (fun V Ld a W hLi hpre hR hI K hK => ?_) ?_
            · have p4 : Ld 4 = true := hpre 4 (List.mem_of_elem_eq_true (by kernel_rfl))
              have f4 := (hR.ev 4 rfl rfl p4).trans (hI.v4 p4)
              exact J_load rfl _ (.tmp 30) rfl (by rw [f4]; exact ld_s0 (HSC.out.sav hI.sv hsxX)) (hK _ _ { hI with v5 := fun _ => rfl })
            refine JSteps.cons (fun V Ld a W hLi hpre hR hI K hK => ?_) ?_
            · have e := (hR.old 7 (by kernel_rfl)).trans (show _ = Value.pointer (some ⟨wr.heap.size, 0, none⟩) from rfl)
              exact J_fieldAddr rfl _ (.tmp 7) 1 rfl (by rw [e]; exact fa_s1 W wr.heap.size) (hK _ _ { hI with v6 := fun _ => rfl })
            refine JSteps.cons (fun V Ld a W hLi hpre hR hI K hK => ?_) ?_
            · have p6 : Ld 6 = true := hpre 6 (List.mem_of_elem_eq_true (by kernel_rfl))
              have f6 := (hR.ev 6 rfl rfl p6).trans (hI.v6 p6)
              exact J_load rfl _ (.tmp 32) rfl (by rw [f6]; exact ld_ints ((HSC.out.sav hI.sv hsxX).c1)) (hK _ _ { hI with v7 := fun _ => rfl })
            refine JSteps.cons (fun V Ld a W hLi hpre hR hI K hK => ?_) ?_
            · have p7 : Ld 7 = true := hpre 7 (List.mem_of_elem_eq_true (by kernel_rfl))
              have f7 := (hR.ev 7 rfl rfl p7).trans (hI.v7 p7)
              exact J_len rfl (.tmp 33) rfl f7 (hK _ _ { hI with v8 := fun _ => rfl })
            refine JSteps.cons (fun V Ld a W hLi hpre hR hI K hK => ?_) ?_
            · have p5 : Ld 5 = true := hpre 5 (List.mem_of_elem_eq_true (by kernel_rfl))
              have p8 : Ld 8 = true := hpre 8 (List.mem_of_elem_eq_true (by kernel_rfl))
              have f5 := (hR.ev 5 rfl rfl p5).trans (hI.v5 p5)
              have f8 := (hR.ev 8 rfl rfl p8).trans (hI.v8 p8)
              exact J_lit2 rfl (.tmp 31) (.tmp 34) rfl f5 f8 (hK _ _ (hI.lit hax3))
            refine JSteps.cons (fun V Ld a W hLi hpre hR hI K hK => ?_) ?_
            · have p3 : Ld 3 = true := hpre 3 (List.mem_of_elem_eq_true (by kernel_rfl))
              have p9 : Ld 9 = true := hpre 9 (List.mem_of_elem_eq_true (by kernel_rfl))
              have f3 := (hR.ev 3 rfl rfl p3).trans (hI.v3 p3)
              obtain ⟨g0, e9, hi9⟩ := hI.v9 p9
              have f9 := (hR.ev 9 rfl rfl p9).trans e9
              exact J_app2 W rfl (.tmp 29) (.tmp 35) rfl (M := [x, (n : Int)]) f3 f9 (hi9 hLi) (by simp) (hI.r0 hLi) hlF (by simp) (by have := hI.sv.size; omega) (fun g cap w' ho hg hat => hK _ _ (hI.app hax3 hlo hLi p3 ho hg hat))
            refine JSteps.cons (fun V Ld a W hLi hpre hR hI K hK => ?_) ?_
            · have p0 : Ld 0 = true := hpre 0 (List.mem_of_elem_eq_true (by kernel_rfl))
              have f0 := (hR.ev 0 rfl rfl p0).trans (hI.v0 p0)
              have e := (hR.old 3 (by kernel_rfl)).trans (show _ = Value.pointer (some ⟨ax, 0, none⟩) from rfl)
              exact J_indexAddr rfl _ (.tmp 3) (.tmp 26) rfl (by rw [e, f0]; exact ia_arr3 W ax hk3) (hK _ _ { hI with v11 := fun _ => rfl })
            refine JSteps.cons (fun V Ld a W hLi hpre hR hI K hK => ?_) trivial
            · have p10 : Ld 10 = true := hpre 10 (List.mem_of_elem_eq_true (by kernel_rfl))
              have p11 : Ld 11 = true := hpre 11 (List.mem_of_elem_eq_true (by kernel_rfl))
              have f11 := (hR.ev 11 rfl rfl p11).trans (hI.v11 p11)
              obtain ⟨w', hs, hI'⟩ := hI.st hk3 hlo hLi p10
              exact J_store rfl _ (.tmp 37) (.tmp 36) rfl (by rw [f11, hR.ev 10 rfl rfl p10]; exact hs) (hK _ _ hI')

          case refine_3 =>
            intro V Ld w4 hLd hI
            obtain ⟨hF4, hs4⟩ := hI.fin HF3.out hk3 hLd
            rw [fkS_step, fset_same, ← HSP.out] at hF4
            have HF4 := Lib.hid hF4
            have HS4 := Lib.hid ((HSV2.out.trans (Sav.of_below HB3.out)).trans2 hs4 (fun b hb => hb.imp id (fun e => (World.ownsRow.lt (HF2.out.row k hk3) b e).1)))
            generalize fset vs2 k (V 10) = vs4 at *
            clear hF4 hs4 hI hLd
            simp only [finL, putL, Act.put, Nat.reduceAdd]
            generalize V 0 = q0
            generalize V 1 = q1
            generalize V 2 = q2
            generalize V 3 = q3
            generalize V 4 = q4
            generalize V 5 = q5
            generalize V 6 = q6
            generalize V 7 = q7
            generalize V 8 = q8
            generalize V 9 = q9
            generalize V 10 = q10
            generalize V 11 = q11

            clear V
            simp only [List.setIfInBounds_toArray, List.set_cons_succ, List.set_cons_zero]
            go_wp2_with fail
            go_roundw
            case rel => exact ⟨j + 1, vs4, by omega, by go_num, HF4.out, HS4.out⟩
            case measure => simp [intOf]; omega
        · obtain rfl : j = (Ls k).length := by omega
          have HF5 := Lib.hid (show Fm wr ax w1.heap.size vs2 (fkS Ls (k + 1)) from by rw [← fkS_end]; exact HF2.out)
          clear hF2 hsv2 hix
          go_wp2_with fail
          go_roundw
          case rel => exact ⟨k + 1, vs2, by omega, by go_num, HF5.out, HSV2.out⟩
          case measure => simp [intOf]; omega
    · obtain rfl : k = 3 := by omega
      have hr0 := HF.out.row 0 (by omega)
      have hr1 := HF.out.row 1 (by omega)
      have hr2 := HF.out.row 2 (by omega)
      have hc0 := HF.out.cell (i := 0) (by omega)
      have hc1 := HF.out.cell (i := 1) (by omega)
      have hc2 := HF.out.cell (i := 2) (by omega)
      obtain ⟨A0, a0, e0, q0, -⟩ := own_ints hr0 rfl
      obtain ⟨A1, a1, e1, q1, -⟩ := own_ints hr1 rfl
      obtain ⟨A2, a2, e2, q2, -⟩ := own_ints hr2 rfl
      have hrx := (HSV.out.block (w.heap.size + 1) (blk_lt HRX.out) (by omega)).trans HRX.out
      rw [e0] at hc0
      rw [e1] at hc1
      rw [e2] at hc2
      have k0 : fkS Ls 3 0 = shpL S := by show shpL (Ls 0) = _; rw [HGO.out.1]
      have k1 : fkS Ls 3 1 = shpL T := by show shpL (Ls 1) = _; rw [HGO.out.2.1]
      have k2 : fkS Ls 3 2 = shpL [(gkh, M)] := by show shpL (Ls 2) = _; rw [HGO.out.2.2]
      rw [k0] at hc0 q0
      rw [k1] at hc1 q1
      rw [k2] at hc2 q2
      have r0 : wr.cell? ⟨w.heap.size + 1, 0, none⟩ = some (.slice none 0 0) := by rw [cell_of_row wr _ 0 _ _ (0, 0) hrx]; rfl
      have r1 : wr.cell? ⟨w.heap.size + 1, 1, none⟩ = some (.slice none 0 0) := by rw [cell_of_row wr _ 1 _ _ (0, 0) hrx]; rfl
      have r2 : wr.cell? ⟨w.heap.size + 1, 2, none⟩ = some (.slice none 0 0) := by rw [cell_of_row wr _ 2 _ _ (0, 0) hrx]; rfl
      have f0 : wr.frozen? ⟨w.heap.size + 1, 0, none⟩ = false := by simp [World.frozen?, hrx]
      have f1 : wr.frozen? ⟨w.heap.size + 1, 1, none⟩ = false := by simp [World.frozen?, hrx]
      have f2 : wr.frozen? ⟨w.heap.size + 1, 2, none⟩ = false := by simp [World.frozen?, hrx]
      have HE := Lib.hid (form_end (w.heap.size + 1) rfl HB1.out HSV.out hz1 (by omega) hrx A0 A1 A2 a0 a1 a2 (G := ⟨gh, S, T, gkh, M⟩) q0 q1 q2 (fun b e => by rw [e0, k0] at hr0; exact hr0.lt _ e) (fun b e => by rw [e1, k1] at hr1; exact hr1.lt _ e) (fun b e => by rw [e2, k2] at hr2; exact hr2.lt _ e))
      clear hr0 hr1 hr2 e0 e1 e2 q0 q1 q2 hrx k0 k1 k2
      go_wp2_with fail
      exact bodyPost_ret (results_arr3 rfl _ _ (w.heap.size + 1) rfl HE.out.2) rfl HE.out.1
end Go.Proofs.YtjckpammcgeloaaDoor
namespace Go.Proofs.YtjckpammcgeloaaDoor
open Go.RowKit

def as3i (A B C : Option Addr) : Nat → Option Addr | 0 => A | 1 => B | _ => C
def cs3i (a b c : Nat) : Nat → Nat | 0 => a | 1 => b | _ => c
def ls3i (L M N : List Int) : Nat → List Int | 0 => L | 1 => M | _ => N
theorem three {k : Nat} (h : k < 3) : k = 0 ∨ k = 1 ∨ k = 2 := by omega
def eq3 (Fs Hs : Nat → List Int) : Bool := sameL (Fs 0) (Hs 0) && sameL (Fs 1) (Hs 1) && sameL (Fs 2) (Hs 2)
theorem eq3_no {Fs Hs : Nat → List Int} {k : Nat} (hk : k < 3) (h : sameL (Fs k) (Hs k) = false) : false = eq3 Fs Hs := by
  unfold eq3
  rcases three hk with rfl | rfl | rfl <;> simp [h]
theorem eq3_yes {Fs Hs : Nat → List Int} (h : ∀ k, k < 3 → sameL (Fs k) (Hs k) = true) : true = eq3 Fs Hs := by
  unfold eq3
  rw [h 0 (by omega), h 1 (by omega), h 2 (by omega)]; rfl

/-- Three lists of numbers in a block of their own. -/
structure Arr3 (w : World) (g : Nat) (As : Nat → Option Addr) (cs : Nat → Nat) (Fs : Nat → List Int) : Prop where
  lt : g < w.heap.size
  cell : ∀ k, k < 3 → w.cell? ⟨g, k, none⟩ = some (.slice (As k) (Fs k).length (cs k))
  at_ : ∀ k, k < 3 → IntsAt w (As k) (Fs k)
  len : ∀ k, k < 3 → (Fs k).length ≤ 1152921504606846976
theorem Arr3.below {w w' : World} {g : Nat} {As : Nat → Option Addr} {cs : Nat → Nat} {Fs : Nat → List Int} (h : Arr3 w g As cs Fs) (hb : Below w.heap.size w w') : Arr3 w' g As cs Fs :=
  ⟨Nat.lt_of_lt_of_le h.lt hb.size, fun k hk => (hb.cell (p := ⟨g, k, none⟩) h.lt).trans (h.cell k hk), fun k hk => (h.at_ k hk).below hb, h.len⟩

set_option maxRecDepth 100000 in
set_option maxHeartbeats 1000000 in
theorem equalForm_any (g g' : Nat) (As As' : Nat → Option Addr) (cs cs' : Nat → Nat) (Fs Hs : Nat → List Int) (w : World) (hA : Arr3 w g As cs Fs) (hA' : Arr3 w g' As' cs' Hs) :
    Calls Tryd.prog 33 #[.slice (some ⟨g, 0, none⟩) 3 3, .slice (some ⟨g', 0, none⟩) 3 3, .func (.func 34) #[] #[]] w (RetB (.bool (eq3 Fs Hs)) w) := by
  have H1 := Lib.hid hA
  have H2 := Lib.hid hA'
  clear hA hA'
  go_enter Tryd.func33, Tryd.ntmps33
  go_wp2_with fail
  go_loopw [17] (fun i wr => ∃ k : Nat, k ≤ 3 ∧ i = .int .i64 k ∧ (∀ j, j < k → sameL (Fs j) (Hs j) = true) ∧ Below w.heap.size w wr) (fun i _ => 3 - (intOf i).toNat)
  case atStart => exact ⟨0, Nat.zero_le _, rfl, fun j hj => absurd hj (by omega), Below.refl _ _⟩
  case round =>
    obtain ⟨k, hk, rfl, hpre, hbr⟩ := hrel
    have HP := Lib.hid hpre
    clear hpre
    by_cases hlt : k < 3
    · have h1 := H1.out.below hbr
      have h2 := H2.out.below hbr
      have x0 := h1.cell k hlt
      have y0 := h2.cell k hlt
      have hb := h1.lt
      have hb' := h2.lt
      have HX := Lib.hid (h1.at_ k hlt)
      have HY := Lib.hid (h2.at_ k hlt)
      have hvl := h1.len k hlt
      clear h1 h2
      have hk0 : (0 : Int) ≤ (k : Int) := by omega
      have hkl : (k : Int) < 3 := by omega
      have HN := Lib.hid (fun h => eq3_no (Fs := Fs) (Hs := Hs) hlt h)
      generalize hL : Fs k = L at *
      generalize hM : Hs k = M at *
      have HE := Lib.hid (And.intro hL hM)
      clear hL hM
      go_wp2_with fail
      refine ret_below (equalInts_any (As k) (As' k) L M (cs k) (cs' k) _ HX.out HY.out hvl) fun w2 hb2 => ?_
      have hbw : Below w.heap.size w w2 := below_trans hbr hb2
      cases hq : sameL L M with
      | true =>
        have HQ := Lib.hid hq
        clear hq
        go_wp2_with fail
        go_roundw
        case rel =>
          refine ⟨k + 1, by omega, by go_num, fun j hj => ?_, hbw⟩
          by_cases hjk : j = k
          · subst hjk; rw [HE.out.1, HE.out.2]; exact HQ.out
          · exact HP.out j (by omega)
        case measure => simp [intOf]; omega
      | false =>
        have HV := Lib.hid (HN.out (by first | exact hq | (rw [HE.out.1, HE.out.2]; exact hq)))
        clear hq
        go_wp2_with fail
        go_ret
        exact RetB.bool HV.out hbw
    · have HV := Lib.hid (eq3_yes (Fs := Fs) (Hs := Hs) (fun j hj => HP.out j (by omega)))
      go_wp2_with fail
      go_ret
      exact RetB.bool HV.out hbr
end Go.Proofs.YtjckpammcgeloaaDoor
namespace Go.Proofs.YtjckpammcgeloaaDoor
open Go.RowKit

/-! ### Guarded operations -/
section
variable {P : Program} {ops : Array Oper} {o : Oper} {a : Act} {K : Act → World → Prop} {Q : Exit → Act → World → Prop} {E : Prop} {w : World}
theorem J_g (hw : Region.wanted o (yielded ops a.tmps) = true) (h : if Region.wanted { o with guard := none } (yielded ops a.tmps) = true then Oper.wp P { o with guard := none } a w K Q else False) : if Region.wanted o (yielded ops a.tmps) = true then Oper.wp P o a w K Q else E := by
  rw [if_pos hw]
  rw [if_pos (by simp [Region.wanted])] at h
  exact h
theorem J_un (hw : Region.wanted o (yielded ops a.tmps) = false) (h : K (a.put o.dst undef) w) : if Region.wanted o (yielded ops a.tmps) = true then Oper.wp P o a w K Q else K (a.put o.dst undef) w := by
  rw [if_neg (by rw [hw]; decide)]; exact h
theorem RJ.yields {a0 : Act} {V : Nat → Value} {L : Nat → Bool} (h : RJ ops a0 V L a) {j : Nat} {p : Oper} (hj : ops[j]? = some p) {d : Nat} (hd : p.dst = some d) (hL : L j = true) {b : Bool} (hv : V j = .bool b) : yielded ops a.tmps j = some b := by
  have h1 := h.val j p hj d hd hL
  rw [hv] at h1
  unfold yielded
  rw [hj]
  simp only [Option.bind_some, hd]
  cases ht : a.tmps[d]? with
  | none => rw [ht] at h1; cases h1
  | some v => rw [ht] at h1; simp only [Option.getD_some] at h1; rw [h1]
theorem RJ.want {a0 : Act} {V : Nat → Value} {L : Nat → Bool} (h : RJ ops a0 V L a) {j : Nat} {b : Bool} (hg : o.guard = some (j, b)) {p : Oper} (hj : ops[j]? = some p) {d : Nat} (hd : p.dst = some d) (hL : L j = true) (hv : V j = .bool b) : Region.wanted o (yielded ops a.tmps) = true := by
  unfold Region.wanted
  rw [hg]
  simp only
  rw [h.yields hj hd hL hv]
  simp
theorem RJ.unwant {a0 : Act} {V : Nat → Value} {L : Nat → Bool} (h : RJ ops a0 V L a) {j : Nat} {b : Bool} (hg : o.guard = some (j, b)) {p : Oper} (hj : ops[j]? = some p) {d : Nat} (hd : p.dst = some d) (hL : L j = true) (hv : V j = .bool (!b)) : Region.wanted o (yielded ops a.tmps) = false := by
  unfold Region.wanted
  rw [hg]
  simp only
  rw [h.yields hj hd hL hv]
  cases b <;> rfl
theorem J_pick (hgd : o.guard = none) (c x y : Operand) (ho : o.op = .pick c x y) {b : Bool} (hc : a.eval c = .bool b) (hK : K (a.put o.dst (if b then a.eval x else a.eval y)) w) :
    if Region.wanted o (yielded ops a.tmps) = true then Oper.wp P o a w K Q else E :=
  J_val hgd (w' := w) (v := if b then a.eval x else a.eval y) (by unfold execOp; rw [ho]; simp only [hc]; rfl) hK
theorem J_unOp (hgd : o.guard = none) (b : UnOp) (t : TypeId) (x : Operand) (ho : o.op = .unOp b t x) {v : Value} (h : (Op.unary b (a.eval x)).run P w = .ok v w) (hK : K (a.put o.dst v) w) :
    if Region.wanted o (yielded ops a.tmps) = true then Oper.wp P o a w K Q else E :=
  J_val hgd (by unfold execOp; rw [ho]; exact run_val h) hK
theorem J_slice (hgd : o.guard = none) (t : TypeId) (x : Operand) (ho : o.op = .slice t x none none none) {v : Value} (h : (Instr.sliceAt t (a.eval x) none none none).run P w = .ok v w) (hK : K (a.put o.dst v) w) :
    if Region.wanted o (yielded ops a.tmps) = true then Oper.wp P o a w K Q else E :=
  J_val hgd (by unfold execOp; rw [ho]; exact run_val h) hK
end
theorem eql_int (x y : Int) (w : World) : (do Go.eqGuard .eql 3 (.tmp 12) (.tmp 14) (.int .i64 x) (.int .i64 y); Go.binOp .eql 3 (.int .i64 x) (.int .i64 y) : Sem Value).run Tryd.prog w = .ok (.bool (x == y)) w := by go_simp
theorem not_run (b : Bool) (w : World) : (Op.unary .not (.bool b)).run Tryd.prog w = .ok (.bool (!b)) w := by go_simp
theorem sl_arr3 (w : World) (g : Nat) : (Instr.sliceAt 59 (.pointer (some ⟨g, 0, none⟩)) none none none).run Tryd.prog w = .ok (.slice (some ⟨g, 0, none⟩) 3 3) w := by go_simp
theorem al_arr3 (w : World) : (Instr.alloc 59 true (.tuple #[])).run Tryd.prog w = .ok (.pointer (some ⟨w.heap.size, 0, none⟩)) (w.alloc (.cells #[.slice none 0 0, .slice none 0 0, .slice none 0 0] 59)) := by go_simp
theorem ld_gift {w : World} {x : Nat} {h kh : Int} {A B C : Option Addr} {n m l ca cb cc : Nat} (H : GiftCell w x h (slV A n ca) (slV B m cb) kh (slV C l cc)) : (Instr.loadAt 37 (.pointer (some ⟨x, 0, none⟩))).run Tryd.prog w = .ok (giftV h (slV A n ca) (slV B m cb) kh (slV C l cc)) w := by
  have h0 := H.c0
  have h1 := H.c1
  have h2 := H.c2
  have h3 := H.c3
  have h4 := H.c4
  go_simp
/-! ### Forms in memory -/
def frm (G : GiftD) : Nat → List Int | 0 => shpL G.bx | 1 => shpL G.wh | _ => shpL [(G.kh, G.kv)]
def fmE (G K : GiftD) : Bool := eq3 (frm G) (frm K)
def difP (G K : GiftD) : Bool := ((G.h == K.h) && fmE G K) && !sameL (valsG G) (valsG K)
/-- A form, as a value. -/
def FoV (w : World) (v : Value) (G : GiftD) : Prop := ∃ A a B b C c, v = .agg #[slV A (shpL G.bx).length a, slV B (shpL G.wh).length b, slV C (shpL [(G.kh, G.kv)]).length c] ∧ IntsAt w A (shpL G.bx) ∧ IntsAt w B (shpL G.wh) ∧ IntsAt w C (shpL [(G.kh, G.kv)])
/-- A form, in a block. -/
def FoC (w : World) (g : Nat) (G : GiftD) : Prop := ∃ A a B b C c, w.heap[g]? = some (.cells #[slV A (shpL G.bx).length a, slV B (shpL G.wh).length b, slV C (shpL [(G.kh, G.kv)]).length c] 59 (0, 0)) ∧ IntsAt w A (shpL G.bx) ∧ IntsAt w B (shpL G.wh) ∧ IntsAt w C (shpL [(G.kh, G.kv)])
def Ar3 (w : World) (g : Nat) : Prop := ∃ A n a B m b C l c, w.heap[g]? = some (.cells #[slV A n a, slV B m b, slV C l c] 59 (0, 0))
theorem FormP.get {G : GiftD} {w w' : World} {e : Ending} (h : FormP G w e w') : ∃ v, e = .returned v ∧ FoV w' v G ∧ Below w.heap.size w w' := by
  obtain ⟨A, a, B, b, C, c, rfl, h1, h2, h3, h4⟩ := h
  exact ⟨_, rfl, ⟨A, a, B, b, C, c, rfl, h1, h2, h3⟩, h4⟩
theorem FoV.below {w w' : World} {v : Value} {G : GiftD} (h : FoV w v G) (hb : Below w.heap.size w w') : FoV w' v G := by
  obtain ⟨A, a, B, b, C, c, e, h1, h2, h3⟩ := h
  exact ⟨A, a, B, b, C, c, e, h1.below hb, h2.below hb, h3.below hb⟩
theorem FoC.below {w w' : World} {g : Nat} {G : GiftD} (h : FoC w g G) (hb : Below w.heap.size w w') : FoC w' g G := by
  obtain ⟨A, a, B, b, C, c, e, h1, h2, h3⟩ := h
  exact ⟨A, a, B, b, C, c, (hb.block _ (blk_lt e)).trans e, h1.below hb, h2.below hb, h3.below hb⟩
theorem Ar3.lt {w : World} {g : Nat} (h : Ar3 w g) : g < w.heap.size := by obtain ⟨A, n, a, B, m, b, C, l, c, e⟩ := h; exact blk_lt e
theorem Ar3.below {w w' : World} {g : Nat} (h : Ar3 w g) (hb : Below w.heap.size w w') : Ar3 w' g := by
  obtain ⟨A, n, a, B, m, b, C, l, c, e⟩ := h; exact ⟨A, n, a, B, m, b, C, l, c, (hb.block _ (blk_lt e)).trans e⟩
theorem FoC.ar {w : World} {g : Nat} {G : GiftD} (h : FoC w g G) : Ar3 w g := by
  obtain ⟨A, a, B, b, C, c, e, -⟩ := h; exact ⟨_, _, _, _, _, _, _, _, _, e⟩
/-- A store into an array of slices does not touch numbers. -/
theorem ints_ar {w w' : World} {g : Nat} {A : Option Addr} {L : List Int} (h : IntsAt w A L) (hg : Ar3 w g) (hs : Sav (fun x => x = g) w w') : IntsAt w' A L := fun k hk => by
  obtain ⟨b, off, hA, hb, hc⟩ := h k hk
  refine ⟨b, off, hA, Nat.lt_of_lt_of_le hb hs.size, (hs.cell hb (fun e => ?_)).trans hc⟩
  have e' : b = g := e
  subst e'
  obtain ⟨A, n, a, B, m, b', C, l, c, e⟩ := hg
  rw [cell_of_row w b _ _ _ (0, 0) e] at hc
  have : off + k = 0 ∨ off + k = 1 ∨ off + k = 2 ∨ 3 ≤ off + k := by omega
  rcases this with h0 | h0 | h0 | h0
  · rw [h0] at hc; cases hc
  · rw [h0] at hc; cases hc
  · rw [h0] at hc; cases hc
  · rw [Array.getElem?_eq_none (by simpa using h0)] at hc; cases hc
theorem FoV.set {w w' : World} {g : Nat} {v : Value} {G : GiftD} (h : FoV w v G) (hg : Ar3 w g) (hs : Sav (fun x => x = g) w w') : FoV w' v G := by
  obtain ⟨A, a, B, b, C, c, e, h1, h2, h3⟩ := h
  exact ⟨A, a, B, b, C, c, e, ints_ar h1 hg hs, ints_ar h2 hg hs, ints_ar h3 hg hs⟩
theorem FoC.set {w w' : World} {g g' : Nat} {G : GiftD} (h : FoC w g' G) (hg : Ar3 w g) (hs : Sav (fun x => x = g) w w') (hne : g' ≠ g) : FoC w' g' G := by
  obtain ⟨A, a, B, b, C, c, e, h1, h2, h3⟩ := h
  exact ⟨A, a, B, b, C, c, (hs.block _ (blk_lt e) hne).trans e, ints_ar h1 hg hs, ints_ar h2 hg hs, ints_ar h3 hg hs⟩
theorem Ar3.set {w w' : World} {g g' : Nat} (h : Ar3 w g') (hs : Sav (fun x => x = g) w w') (hne : g' ≠ g) : Ar3 w' g' := by
  obtain ⟨A, n, a, B, m, b, C, l, c, e⟩ := h; exact ⟨A, n, a, B, m, b, C, l, c, (hs.block _ (blk_lt e) hne).trans e⟩
theorem st_arr3 {w : World} {g : Nat} (h : Ar3 w g) (A B C : Option Addr) (n a m b l c : Nat) : (Instr.storeAt 59 (.pointer (some ⟨g, 0, none⟩)) (.agg #[slV A n a, slV B m b, slV C l c])).run Tryd.prog w =
    .ok () (((w.setCell ⟨g, 0, none⟩ (slV A n a)).setCell ⟨g, 1, none⟩ (slV B m b)).setCell ⟨g, 2, none⟩ (slV C l c)) := by
  obtain ⟨A', n', a', B', m', b', C', l', c', hh⟩ := h
  have h0 : w.cell? ⟨g, 0, none⟩ = some (slV A' n' a') := by rw [cell_of_row w g 0 _ _ (0, 0) hh]; rfl
  have h1 : w.cell? ⟨g, 1, none⟩ = some (slV B' m' b') := by rw [cell_of_row w g 1 _ _ (0, 0) hh]; rfl
  have h2 : w.cell? ⟨g, 2, none⟩ = some (slV C' l' c') := by rw [cell_of_row w g 2 _ _ (0, 0) hh]; rfl
  have f0 : w.frozen? ⟨g, 0, none⟩ = false := by simp [World.frozen?, hh]
  have f1 : w.frozen? ⟨g, 1, none⟩ = false := by simp [World.frozen?, hh]
  have f2 : w.frozen? ⟨g, 2, none⟩ = false := by simp [World.frozen?, hh]
  clear hh
  go_simp
theorem FoV.store {w : World} {g : Nat} {v : Value} {G : GiftD} (h : FoV w v G) (hg : Ar3 w g) : ∃ w', (Instr.storeAt 59 (.pointer (some ⟨g, 0, none⟩)) v).run Tryd.prog w = .ok () w' ∧ Sav (fun x => x = g) w w' ∧ FoC w' g G := by
  have hg0 := hg
  obtain ⟨A, a, B, b, C, c, rfl, h1, h2, h3⟩ := h
  have hs : Sav (fun x => x = g) w (((w.setCell ⟨g, 0, none⟩ (slV A (shpL G.bx).length a)).setCell ⟨g, 1, none⟩ (slV B (shpL G.wh).length b)).setCell ⟨g, 2, none⟩ (slV C (shpL [(G.kh, G.kv)]).length c)) := ((Sav.set (X := fun x => x = g) _ ⟨g, 0, none⟩ _ rfl).trans (Sav.set (X := fun x => x = g) _ ⟨g, 1, none⟩ _ rfl)).trans (Sav.set (X := fun x => x = g) _ ⟨g, 2, none⟩ _ rfl)
  refine ⟨_, st_arr3 hg _ _ _ _ _ _ _ _ _, hs, A, a, B, b, C, c, ?_, ints_ar h1 hg hs, ints_ar h2 hg hs, ints_ar h3 hg hs⟩
  obtain ⟨A', n', a', B', m', b', C', l', c', hh⟩ := hg0
  rw [heap_set_same _ _ _ _ _ _ _ (heap_set_same _ _ _ _ _ _ _ (heap_set_same _ _ _ _ _ _ _ hh))]
  rfl
theorem FoC.arr3 {w : World} {g : Nat} {G : GiftD} (h : FoC w g G) (s : GTiny G) : ∃ As cs, Arr3 w g As cs (frm G) := by
  obtain ⟨A, a, B, b, C, c, e, h1, h2, h3⟩ := h
  refine ⟨as3i A B C, cs3i a b c, blk_lt e, fun k hk => ?_, fun k hk => ?_, fun k hk => ?_⟩
  · rw [cell_of_row w g k _ _ (0, 0) e]
    rcases three hk with rfl | rfl | rfl <;> rfl
  · rcases three hk with rfl | rfl | rfl
    · exact h1
    · exact h2
    · exact h3
  · have l1 : (shpL G.bx).length = G.bx.length * 2 := shpK_len _ _
    have l2 : (shpL G.wh).length = G.wh.length * 2 := shpK_len _ _
    have l3 : (shpL [(G.kh, G.kv)]).length = 1 * 2 := shpK_len _ _
    have := s.bl
    have := s.wl
    rcases three hk with rfl | rfl | rfl
    · show (shpL G.bx).length ≤ _; omega
    · show (shpL G.wh).length ≤ _; omega
    · show (shpL [(G.kh, G.kv)]).length ≤ _; omega
theorem eqForm_any (ga gb : Nat) (G K : GiftD) (w : World) (hA : FoC w ga G) (hB : FoC w gb K) (sG : GTiny G) (sK : GTiny K) :
    Calls Tryd.prog 33 #[.slice (some ⟨ga, 0, none⟩) 3 3, .slice (some ⟨gb, 0, none⟩) 3 3, .func (.func 34) #[] #[]] w (RetB (.bool (fmE G K)) w) := by
  obtain ⟨As, cs, h1⟩ := hA.arr3 sG
  obtain ⟨As', cs', h2⟩ := hB.arr3 sK
  exact equalForm_any ga gb As As' cs cs' _ _ w h1 h2
theorem enter_form (args : Array Value) (w : World) : (callFunc 32 args).run Tryd.prog w = .ok (.enter 32 args) w :=
  Go.MuLone.run_callFunc_enter Tryd.func32 (by kernel_rfl) rfl args w
theorem enter_vals (args : Array Value) (w : World) : (callFunc 35 args).run Tryd.prog w = .ok (.enter 35 args) w :=
  Go.MuLone.run_callFunc_enter Tryd.func35 (by kernel_rfl) rfl args w
theorem enter_eqInts (args : Array Value) (w : World) : (callFunc 34 args).run Tryd.prog w = .ok (.enter 34 args) w :=
  Go.MuLone.run_callFunc_enter Tryd.func34 (by kernel_rfl) rfl args w
theorem enter_eqForm (args : Array Value) (w : World) : (callFunc 33 args).run Tryd.prog w = .ok (.enter 33 args) w :=
  Go.MuLone.run_callFunc_enter Tryd.func33 (by kernel_rfl) rfl args w

/-- The region that makes both forms, under way. -/
structure Di1 (W0 : World) (u u' : Value) (G K : GiftD) (V : Nat → Value) (Ld : Nat → Bool) (w : World) : Prop where
  sv : Below W0.heap.size W0 w
  v0 : Ld 0 = true → V 0 = u
  v1 : Ld 1 = true → FoV w (V 1) G
  v2 : Ld 2 = true → V 2 = u'
  v3 : Ld 3 = true → FoV w (V 3) K
  v4 : Ld 4 = true → ∃ g, V 4 = .pointer (some ⟨g, 0, none⟩) ∧ W0.heap.size ≤ g ∧ Ar3 w g
  v5 : Ld 5 = true → ∃ g, V 5 = .pointer (some ⟨g, 0, none⟩) ∧ W0.heap.size ≤ g ∧ Ar3 w g
  v6 : Ld 6 = true → Ld 4 = true ∧ ∃ g, V 4 = .pointer (some ⟨g, 0, none⟩) ∧ FoC w g G
  v7 : Ld 7 = true → Ld 5 = true ∧ ∃ g, V 5 = .pointer (some ⟨g, 0, none⟩) ∧ FoC w g K
  d : Ld 4 = true → Ld 5 = true → ∀ g, V 4 = .pointer (some ⟨g, 0, none⟩) → V 5 = .pointer (some ⟨g, 0, none⟩) → False
section
variable {W0 : World} {u u' : Value} {G K : GiftD} {V : Nat → Value} {Ld : Nat → Bool} {w w' : World}
theorem Di1.move (h : Di1 W0 u u' G K V Ld w) (hb : Below w.heap.size w w') : Di1 W0 u u' G K V Ld w' := { h with
  sv := below_trans h.sv hb
  v1 := fun e => (h.v1 e).below hb
  v3 := fun e => (h.v3 e).below hb
  v4 := fun e => by obtain ⟨g, e1, e2, e3⟩ := h.v4 e; exact ⟨g, e1, e2, e3.below hb⟩
  v5 := fun e => by obtain ⟨g, e1, e2, e3⟩ := h.v5 e; exact ⟨g, e1, e2, e3.below hb⟩
  v6 := fun e => by obtain ⟨e0, g, e1, e2⟩ := h.v6 e; exact ⟨e0, g, e1, e2.below hb⟩
  v7 := fun e => by obtain ⟨e0, g, e1, e2⟩ := h.v7 e; exact ⟨e0, g, e1, e2.below hb⟩ }
theorem ptr_inj {g g' : Nat} (h : Value.pointer (some ⟨g, 0, none⟩) = Value.pointer (some ⟨g', 0, none⟩)) : g = g' := by
  injection h with h; injection h with h; injection h
theorem Di1.a4 (h : Di1 W0 u u' G K V Ld w) (hL : Ld 4 = false) : Di1 W0 u u' G K (updV V 4 (.pointer (some ⟨w.heap.size, 0, none⟩))) (upd Ld 4) (w.alloc (.cells #[.slice none 0 0, .slice none 0 0, .slice none 0 0] 59)) := { h.move (below_alloc _ _) with
  v4 := fun _ => ⟨_, rfl, h.sv.size, none, 0, 0, none, 0, 0, none, 0, 0, heap_alloc_new _ _⟩
  v6 := fun e => nfC hL (h.v6 e).1
  d := fun _ e g e1 e2 => by
    obtain ⟨g', e3, e4, e5⟩ := h.v5 e
    have e6 : Value.pointer (some ⟨w.heap.size, 0, none⟩) = .pointer (some ⟨g, 0, none⟩) := e1
    have e7 := ptr_inj e6
    have e8 : V 5 = .pointer (some ⟨g, 0, none⟩) := e2
    rw [e3] at e8
    have e9 := ptr_inj e8
    have := e5.lt
    omega }
theorem Di1.a5 (h : Di1 W0 u u' G K V Ld w) (hL : Ld 5 = false) : Di1 W0 u u' G K (updV V 5 (.pointer (some ⟨w.heap.size, 0, none⟩))) (upd Ld 5) (w.alloc (.cells #[.slice none 0 0, .slice none 0 0, .slice none 0 0] 59)) := { h.move (below_alloc _ _) with
  v5 := fun _ => ⟨_, rfl, h.sv.size, none, 0, 0, none, 0, 0, none, 0, 0, heap_alloc_new _ _⟩
  v7 := fun e => nfC hL (h.v7 e).1
  d := fun e _ g e1 e2 => by
    obtain ⟨g', e3, e4, e5⟩ := h.v4 e
    have e6 : Value.pointer (some ⟨w.heap.size, 0, none⟩) = .pointer (some ⟨g, 0, none⟩) := e2
    have e7 := ptr_inj e6
    have e8 : V 4 = .pointer (some ⟨g, 0, none⟩) := e1
    rw [e3] at e8
    have e9 := ptr_inj e8
    have := e5.lt
    omega }
theorem Di1.turn (h : Di1 W0 u u' G K V Ld w) {g : Nat} (hg : W0.heap.size ≤ g) (hs : Sav (fun x => x = g) w w') : Below W0.heap.size W0 w' :=
  ((Sav.of_below (X := fun _ => False) h.sv).trans2 hs (fun k e => .inr (by have e' : k = g := e; omega))).below _ (Nat.le_refl _) (fun _ _ h => h.elim)
theorem Di1.s6 (h : Di1 W0 u u' G K V Ld w) (h1 : Ld 1 = true) (h4 : Ld 4 = true) : ∃ w', (Instr.storeAt 59 (V 4) (V 1)).run Tryd.prog w = .ok () w' ∧ Di1 W0 u u' G K (updV V 6 undef) (upd Ld 6) w' := by
  obtain ⟨g, e1, e2, e3⟩ := h.v4 h4
  obtain ⟨w', hs, hsv, hc⟩ := (h.v1 h1).store e3
  refine ⟨w', by rw [e1]; exact hs, { h with
    sv := h.turn e2 hsv
    v1 := fun e => (h.v1 e).set e3 hsv
    v3 := fun e => (h.v3 e).set e3 hsv
    v4 := fun _ => ⟨g, e1, e2, hc.ar⟩
    v5 := fun e => by obtain ⟨g', q1, q2, q3⟩ := h.v5 e; exact ⟨g', q1, q2, q3.set hsv (fun hh => h.d h4 e g e1 (by rw [q1, hh]))⟩
    v6 := fun _ => ⟨h4, g, e1, hc⟩
    v7 := fun e => by obtain ⟨q0, g', q1, q2⟩ := h.v7 e; exact ⟨q0, g', q1, q2.set e3 hsv (fun hh => h.d h4 q0 g e1 (by rw [q1, hh]))⟩ }⟩
theorem Di1.s7 (h : Di1 W0 u u' G K V Ld w) (h1 : Ld 3 = true) (h5 : Ld 5 = true) : ∃ w', (Instr.storeAt 59 (V 5) (V 3)).run Tryd.prog w = .ok () w' ∧ Di1 W0 u u' G K (updV V 7 undef) (upd Ld 7) w' := by
  obtain ⟨g, e1, e2, e3⟩ := h.v5 h5
  obtain ⟨w', hs, hsv, hc⟩ := (h.v3 h1).store e3
  refine ⟨w', by rw [e1]; exact hs, { h with
    sv := h.turn e2 hsv
    v1 := fun e => (h.v1 e).set e3 hsv
    v3 := fun e => (h.v3 e).set e3 hsv
    v5 := fun _ => ⟨g, e1, e2, hc.ar⟩
    v4 := fun e => by obtain ⟨g', q1, q2, q3⟩ := h.v4 e; exact ⟨g', q1, q2, q3.set hsv (fun hh => h.d e h5 g (by rw [q1, hh]) e1)⟩
    v7 := fun _ => ⟨h5, g, e1, hc⟩
    v6 := fun e => by obtain ⟨q0, g', q1, q2⟩ := h.v6 e; exact ⟨q0, g', q1, q2.set e3 hsv (fun hh => h.d q0 h5 g (by rw [q1, hh]) e1)⟩ }⟩
theorem Di1.fin (h : Di1 W0 u u' G K V Ld w) (hL : ∀ i, i < 8 → Ld i = true) : ∃ ga gb, V 4 = .pointer (some ⟨ga, 0, none⟩) ∧ V 5 = .pointer (some ⟨gb, 0, none⟩) ∧ FoC w ga G ∧ FoC w gb K ∧ Below W0.heap.size W0 w := by
  obtain ⟨-, ga, e1, e2⟩ := h.v6 (hL 6 (by decide))
  obtain ⟨-, gb, e3, e4⟩ := h.v7 (hL 7 (by decide))
  exact ⟨ga, gb, e1, e3, e2, e4, h.sv⟩
end

/-- The region that compares, under way. -/
structure Di2 (W0 : World) (gx kx ga gb : Nat) (u u' : Value) (G K : GiftD) (V : Nat → Value) (Ld : Nat → Bool) (w : World) : Prop where
  sv : Below W0.heap.size W0 w
  v0 : Ld 0 = true → V 0 = .pointer (some ⟨gx, 0, none⟩)
  v1 : Ld 1 = true → V 1 = .int .i64 G.h
  v2 : Ld 2 = true → V 2 = .pointer (some ⟨kx, 0, none⟩)
  v3 : Ld 3 = true → V 3 = .int .i64 K.h
  v4 : Ld 4 = true → V 4 = .bool (G.h == K.h)
  v5 : Ld 5 = true → V 5 = .bool (G.h == K.h)
  v6 : Ld 6 = true → (G.h == K.h) = true → V 6 = .slice (some ⟨ga, 0, none⟩) 3 3
  v7 : Ld 7 = true → (G.h == K.h) = true → V 7 = .slice (some ⟨gb, 0, none⟩) 3 3
  v8 : Ld 8 = true → (G.h == K.h) = true → V 8 = .bool (fmE G K)
  v9 : Ld 9 = true → V 9 = .bool ((G.h == K.h) && fmE G K)
  v10 : Ld 10 = true → V 10 = .bool ((G.h == K.h) && fmE G K)
  v11 : Ld 11 = true → ((G.h == K.h) && fmE G K) = true → V 11 = u
  v12 : Ld 12 = true → ((G.h == K.h) && fmE G K) = true → ∃ A c, V 12 = slV A (valsG G).length c ∧ IntsAt w A (valsG G)
  v13 : Ld 13 = true → ((G.h == K.h) && fmE G K) = true → V 13 = u'
  v14 : Ld 14 = true → ((G.h == K.h) && fmE G K) = true → ∃ A c, V 14 = slV A (valsG K).length c ∧ IntsAt w A (valsG K)
  v15 : Ld 15 = true → ((G.h == K.h) && fmE G K) = true → V 15 = .bool (sameL (valsG G) (valsG K))
  v16 : Ld 16 = true → ((G.h == K.h) && fmE G K) = true → V 16 = .bool (!sameL (valsG G) (valsG K))
  v17 : Ld 17 = true → V 17 = .bool (difP G K)
  v18 : Ld 18 = true → V 18 = .bool (difP G K)
theorem Di2.move {W0 : World} {gx kx ga gb : Nat} {u u' : Value} {G K : GiftD} {V : Nat → Value} {Ld : Nat → Bool} {w w' : World} (h : Di2 W0 gx kx ga gb u u' G K V Ld w) (hb : Below w.heap.size w w') : Di2 W0 gx kx ga gb u u' G K V Ld w' := { h with
  sv := below_trans h.sv hb
  v12 := fun e q => by obtain ⟨A, c, e1, e2⟩ := h.v12 e q; exact ⟨A, c, e1, e2.below hb⟩
  v14 := fun e q => by obtain ⟨A, c, e1, e2⟩ := h.v14 e q; exact ⟨A, c, e1, e2.below hb⟩ }

set_option maxRecDepth 100000 in
set_option maxHeartbeats 8000000 in
theorem differs_any {P P' : Nat → Prop} (u v : Value) (G K : GiftD) (w : World) (hG : GiftR P w u G) (hK : GiftR P' w v K) (sG : GTiny G) (sK : GTiny K) (hvl : (valsG G).length ≤ 1152921504606846976) :
    Calls Tryd.prog 19 #[u, v] w (RetB (.bool (difP G K)) w) := by
  have HG := Lib.hid hG
  have HK := Lib.hid hK
  obtain ⟨A, ca, B, cb, C, cc, rfl, h1, h2, h3⟩ := hG
  obtain ⟨A', ca', B', cb', C', cc', rfl, k1, k2, k3⟩ := hK
  obtain ⟨gh, S, T, gkh, M⟩ := G
  obtain ⟨kh, S2, T2, kkh, M2⟩ := K
  clear h1 h2 h3 k1 k2 k3
  simp only at *
  go_enter Tryd.func19, Tryd.ntmps19
  go_wp2_with fail
  refine gen_world fun w1 hw1 => ?_
  have c1 : GiftCell w1 w.heap.size gh (.slice A S.length ca) (.slice B T.length cb) gkh (.slice C M.length cc) := by rw [hw1]; exact (GiftCell.new _ _ _ _ _ rfl).alloc _
  have c2 : GiftCell w1 (w.heap.size + 1) kh (.slice A' S2.length ca') (.slice B' T2.length cb') kkh (.slice C' M2.length cc') := by rw [hw1]; exact GiftCell.new _ _ _ _ _ (by simp)
  have hb1 : Below w.heap.size w w1 := by rw [hw1]; exact bl_alloc _ (below_alloc _ _)
  clear hw1
  have HC := Lib.hid c1
  have HD := Lib.hid c2
  replace HG := Lib.hid (HG.out.below hb1)
  replace HK := Lib.hid (HK.out.below hb1)
  have HB1 := Lib.hid hb1
  clear c1 c2 hb1
  refine wp_region_J2 (Di1 w1 (giftV gh (slV A S.length ca) (slV B T.length cb) gkh (slV C M.length cc)) (giftV kh (slV A' S2.length ca') (slV B' T2.length cb') kkh (slV C' M2.length cc')) ⟨gh, S, T, gkh, M⟩ ⟨kh, S2, T2, kkh, M2⟩) (by kernel_rfl) (by kernel_rfl) (by kernel_rfl) ?_ ?_ ?_
  case refine_1 => exact fun V => ⟨(Below.refl _ _).drew, fun h => nfC rfl h, fun h => nfC rfl h, fun h => nfC rfl h, fun h => nfC rfl h, fun h => nfC rfl h, fun h => nfC rfl h, fun h => nfC rfl h, fun h => nfC rfl h, fun h => nfC rfl h⟩
  case refine_2 =>
    refine JSteps.cons (fun V Ld a W hLi hpre hR hI K hK => ?_) ?_
    · have e := (hR.old 2 (by kernel_rfl)).trans (show _ = Value.pointer (some ⟨w.heap.size, 0, none⟩) from rfl)
      exact J_load rfl _ (.tmp 2) rfl (by rw [e]; exact ld_gift (HC.out.below hI.sv)) (hK _ _ { hI with v0 := fun _ => rfl })
    refine JSteps.cons (fun V Ld a W hLi hpre hR hI K hK => ?_) ?_
    · have p0 : Ld 0 = true := hpre 0 (List.mem_of_elem_eq_true (by kernel_rfl))
      have f := (hR.ev 0 rfl rfl p0).trans (hI.v0 p0)
      refine J_call rfl _ _ _ rfl enter_form (by simp only [List.map_toArray, List.map_cons, List.map_nil, f]) (form_any _ _ W (HG.out.below hI.sv) sG) ?_
      intro e w' hp
      obtain ⟨v, rfl, hf, hb⟩ := hp.get
      exact ⟨_, rfl, hK _ _ { hI.move hb with v1 := fun _ => hf }⟩
    refine JSteps.cons (fun V Ld a W hLi hpre hR hI K hK => ?_) ?_
    · have e := (hR.old 3 (by kernel_rfl)).trans (show _ = Value.pointer (some ⟨w.heap.size + 1, 0, none⟩) from rfl)
      exact J_load rfl _ (.tmp 3) rfl (by rw [e]; exact ld_gift (HD.out.below hI.sv)) (hK _ _ { hI with v2 := fun _ => rfl })
    refine JSteps.cons (fun V Ld a W hLi hpre hR hI K hK => ?_) ?_
    · have p2 : Ld 2 = true := hpre 2 (List.mem_of_elem_eq_true (by kernel_rfl))
      have f := (hR.ev 2 rfl rfl p2).trans (hI.v2 p2)
      refine J_call rfl _ _ _ rfl enter_form (by simp only [List.map_toArray, List.map_cons, List.map_nil, f]) (form_any _ _ W (HK.out.below hI.sv) sK) ?_
      intro e w' hp
      obtain ⟨v, rfl, hf, hb⟩ := hp.get
      exact ⟨_, rfl, hK _ _ { hI.move hb with v3 := fun _ => hf }⟩
    refine JSteps.cons (fun V Ld a W hLi hpre hR hI K hK => ?_) ?_
    · exact J_alloc rfl _ rfl (al_arr3 W) (hK _ _ (hI.a4 hLi))
    refine JSteps.cons (fun V Ld a W hLi hpre hR hI K hK => ?_) ?_
    · exact J_alloc rfl _ rfl (al_arr3 W) (hK _ _ (hI.a5 hLi))
    refine JSteps.cons (fun V Ld a W hLi hpre hR hI K hK => ?_) ?_
    · have p1 : Ld 1 = true := hpre 1 (List.mem_of_elem_eq_true (by kernel_rfl))
      have p4 : Ld 4 = true := hpre 4 (List.mem_of_elem_eq_true (by kernel_rfl))
      obtain ⟨w', hs, hI'⟩ := hI.s6 p1 p4
      exact J_store rfl _ (.tmp 5) (.tmp 8) rfl (by rw [hR.ev 4 rfl rfl p4, hR.ev 1 rfl rfl p1]; exact hs) (hK _ _ hI')
    refine JSteps.cons (fun V Ld a W hLi hpre hR hI K hK => ?_) trivial
    · have p3 : Ld 3 = true := hpre 3 (List.mem_of_elem_eq_true (by kernel_rfl))
      have p5 : Ld 5 = true := hpre 5 (List.mem_of_elem_eq_true (by kernel_rfl))
      obtain ⟨w', hs, hI'⟩ := hI.s7 p3 p5
      exact J_store rfl _ (.tmp 6) (.tmp 10) rfl (by rw [hR.ev 5 rfl rfl p5, hR.ev 3 rfl rfl p3]; exact hs) (hK _ _ hI')

  case refine_3 =>
    intro V Ld w2 hLd hI
    obtain ⟨ga, gb, e4, e5, fa, fb, hb2⟩ := hI.fin hLd
    have HB2 := Lib.hid (below_trans HB1.out hb2)
    have C1 := Lib.hid (HC.out.below hb2)
    have C2 := Lib.hid (HD.out.below hb2)
    have GX := Lib.hid (HG.out.below hb2)
    have GY := Lib.hid (HK.out.below hb2)
    have FA := Lib.hid fa
    have FB := Lib.hid fb
    clear hI hLd fa fb hb2 HG HK HC HD
    simp only [finL, putL, Act.put, Nat.reduceAdd]
    rw [e4, e5]
    clear e4 e5
    generalize V 0 = q0
    generalize V 1 = q1
    generalize V 2 = q2
    generalize V 3 = q3
    clear V
    simp only [List.setIfInBounds_toArray, List.set_cons_succ, List.set_cons_zero]
    go_upto_region 0 with fail
    refine wp_region_J2 (Di2 w2 w.heap.size (w.heap.size + 1) ga gb (giftV gh (slV A S.length ca) (slV B T.length cb) gkh (slV C M.length cc)) (giftV kh (slV A' S2.length ca') (slV B' T2.length cb') kkh (slV C' M2.length cc')) ⟨gh, S, T, gkh, M⟩ ⟨kh, S2, T2, kkh, M2⟩) (by kernel_rfl) (by kernel_rfl) (by kernel_rfl) ?_ ?_ ?_
    case refine_1 => exact fun V => ⟨(Below.refl _ _).drew, fun h => nfC rfl h, fun h => nfC rfl h, fun h => nfC rfl h, fun h => nfC rfl h, fun h => nfC rfl h, fun h => nfC rfl h, fun h => nfC rfl h, fun h => nfC rfl h, fun h => nfC rfl h, fun h => nfC rfl h, fun h => nfC rfl h, fun h => nfC rfl h, fun h => nfC rfl h, fun h => nfC rfl h, fun h => nfC rfl h, fun h => nfC rfl h, fun h => nfC rfl h, fun h => nfC rfl h, fun h => nfC rfl h⟩
    case refine_2 =>
      refine JSteps.cons (fun V Ld a W hLi hpre hR hI K hK => ?_) ?_
      · have e := (hR.old 2 (by kernel_rfl)).trans (show _ = Value.pointer (some ⟨w.heap.size, 0, none⟩) from rfl)
        exact J_fieldAddr rfl _ (.tmp 2) 0 rfl (by rw [e]; exact fa_g0 W w.heap.size) (hK _ _ { hI with v0 := fun _ => rfl })
      refine JSteps.cons (fun V Ld a W hLi hpre hR hI K hK => ?_) ?_
      · have p0 : Ld 0 = true := hpre 0 (List.mem_of_elem_eq_true (by kernel_rfl))
        have f := (hR.ev 0 rfl rfl p0).trans (hI.v0 p0)
        exact J_load rfl _ (.tmp 11) rfl (by rw [f]; exact ld_gh (C1.out.below hI.sv)) (hK _ _ { hI with v1 := fun _ => rfl })
      refine JSteps.cons (fun V Ld a W hLi hpre hR hI K hK => ?_) ?_
      · have e := (hR.old 3 (by kernel_rfl)).trans (show _ = Value.pointer (some ⟨w.heap.size + 1, 0, none⟩) from rfl)
        exact J_fieldAddr rfl _ (.tmp 3) 0 rfl (by rw [e]; exact fa_g0 W (w.heap.size + 1)) (hK _ _ { hI with v2 := fun _ => rfl })
      refine JSteps.cons (fun V Ld a W hLi hpre hR hI K hK => ?_) ?_
      · have p2 : Ld 2 = true := hpre 2 (List.mem_of_elem_eq_true (by kernel_rfl))
        have f := (hR.ev 2 rfl rfl p2).trans (hI.v2 p2)
        exact J_load rfl _ (.tmp 13) rfl (by rw [f]; exact ld_gh (C2.out.below hI.sv)) (hK _ _ { hI with v3 := fun _ => rfl })
      refine JSteps.cons (fun V Ld a W hLi hpre hR hI K hK => ?_) ?_
      · have p1 : Ld 1 = true := hpre 1 (List.mem_of_elem_eq_true (by kernel_rfl))
        have p3 : Ld 3 = true := hpre 3 (List.mem_of_elem_eq_true (by kernel_rfl))
        have f1 := (hR.ev 1 rfl rfl p1).trans (hI.v1 p1)
        have f3 := (hR.ev 3 rfl rfl p3).trans (hI.v3 p3)
        exact J_binOp rfl .eql _ (.tmp 12) (.tmp 14) _ rfl (by rw [f1, f3]; exact eql_int _ _ W) (hK _ _ { hI with v4 := fun _ => rfl })
      refine JSteps.cons (fun V Ld a W hLi hpre hR hI K hK => ?_) ?_
      · have p4 : Ld 4 = true := hpre 4 (List.mem_of_elem_eq_true (by kernel_rfl))
        have f4 := (hR.ev 4 rfl rfl p4).trans (hI.v4 p4)
        exact J_move rfl (.tmp 15) rfl (hK _ _ { hI with v5 := fun _ => f4 })
      refine JSteps.cons (fun V Ld a W hLi hpre hR hI K hK => ?_) ?_
      · have p5 : Ld 5 = true := hpre 5 (List.mem_of_elem_eq_true (by kernel_rfl))
        have fg := hI.v5 p5
        cases hq : (gh == kh) with
        | false =>
          rw [hq] at fg
          exact J_un (hR.unwant rfl rfl rfl p5 fg) (hK _ _ { hI with v6 := fun _ h => nfC hq h })
        | true =>
          rw [hq] at fg
          refine J_g (hR.want rfl rfl rfl p5 fg) ?_
          have e := (hR.old 5 (by kernel_rfl)).trans (show _ = Value.pointer (some ⟨ga, 0, none⟩) from rfl)
          exact J_slice rfl _ (.tmp 5) rfl (by rw [e]; exact sl_arr3 W _) (hK _ _ { hI with v6 := fun _ _ => rfl })
      refine JSteps.cons (fun V Ld a W hLi hpre hR hI K hK => ?_) ?_
      · have p5 : Ld 5 = true := hpre 5 (List.mem_of_elem_eq_true (by kernel_rfl))
        have fg := hI.v5 p5
        cases hq : (gh == kh) with
        | false =>
          rw [hq] at fg
          exact J_un (hR.unwant rfl rfl rfl p5 fg) (hK _ _ { hI with v7 := fun _ h => nfC hq h })
        | true =>
          rw [hq] at fg
          refine J_g (hR.want rfl rfl rfl p5 fg) ?_
          have e := (hR.old 6 (by kernel_rfl)).trans (show _ = Value.pointer (some ⟨gb, 0, none⟩) from rfl)
          exact J_slice rfl _ (.tmp 6) rfl (by rw [e]; exact sl_arr3 W _) (hK _ _ { hI with v7 := fun _ _ => rfl })
      refine JSteps.cons (fun V Ld a W hLi hpre hR hI K hK => ?_) ?_
      · have p5 : Ld 5 = true := hpre 5 (List.mem_of_elem_eq_true (by kernel_rfl))
        have fg := hI.v5 p5
        cases hq : (gh == kh) with
        | false =>
          rw [hq] at fg
          exact J_un (hR.unwant rfl rfl rfl p5 fg) (hK _ _ { hI with v8 := fun _ h => nfC hq h })
        | true =>
          rw [hq] at fg
          refine J_g (hR.want rfl rfl rfl p5 fg) ?_
          have p6 : Ld 6 = true := hpre 6 (List.mem_of_elem_eq_true (by kernel_rfl))
          have p7 : Ld 7 = true := hpre 7 (List.mem_of_elem_eq_true (by kernel_rfl))
          have f6 := (hR.ev 6 rfl rfl p6).trans (hI.v6 p6 hq)
          have f7 := (hR.ev 7 rfl rfl p7).trans (hI.v7 p7 hq)
          refine J_call rfl _ _ _ rfl enter_eqForm (by simp only [List.map_toArray, List.map_cons, List.map_nil, f6, f7]; rfl) (eqForm_any ga gb _ _ W (FA.out.below hI.sv) (FB.out.below hI.sv) sG sK) ?_
          rintro e w' ⟨rfl, hb⟩
          exact ⟨_, rfl, hK _ _ { hI.move hb with v8 := fun _ _ => rfl }⟩
      refine JSteps.cons (fun V Ld a W hLi hpre hR hI K hK => ?_) ?_
      · have p5 : Ld 5 = true := hpre 5 (List.mem_of_elem_eq_true (by kernel_rfl))
        have p8 : Ld 8 = true := hpre 8 (List.mem_of_elem_eq_true (by kernel_rfl))
        have f5 := (hR.ev 5 rfl rfl p5).trans (hI.v5 p5)
        refine J_pick rfl (.tmp 16) (.tmp 19) (.const (.bool false)) rfl f5 (hK _ _ { hI with v9 := fun _ => ?_ })
        cases hq : (gh == kh) with
        | false => rfl
        | true => exact (hR.ev 8 rfl rfl p8).trans (hI.v8 p8 hq)
      refine JSteps.cons (fun V Ld a W hLi hpre hR hI K hK => ?_) ?_
      · have p9 : Ld 9 = true := hpre 9 (List.mem_of_elem_eq_true (by kernel_rfl))
        have f9 := (hR.ev 9 rfl rfl p9).trans (hI.v9 p9)
        exact J_move rfl (.tmp 20) rfl (hK _ _ { hI with v10 := fun _ => f9 })
      refine JSteps.cons (fun V Ld a W hLi hpre hR hI K hK => ?_) ?_
      · have p10 : Ld 10 = true := hpre 10 (List.mem_of_elem_eq_true (by kernel_rfl))
        have fg := hI.v10 p10
        cases hq : ((gh == kh) && fmE ⟨gh, S, T, gkh, M⟩ ⟨kh, S2, T2, kkh, M2⟩) with
        | false =>
          rw [hq] at fg
          exact J_un (hR.unwant rfl rfl rfl p10 fg) (hK _ _ { hI with v11 := fun _ h => nfC hq h })
        | true =>
          rw [hq] at fg
          refine J_g (hR.want rfl rfl rfl p10 fg) ?_
          have e := (hR.old 2 (by kernel_rfl)).trans (show _ = Value.pointer (some ⟨w.heap.size, 0, none⟩) from rfl)
          exact J_load rfl _ (.tmp 2) rfl (by rw [e]; exact ld_gift (C1.out.below hI.sv)) (hK _ _ { hI with v11 := fun _ _ => rfl })
      refine JSteps.cons (fun V Ld a W hLi hpre hR hI K hK => ?_) ?_
      · have p10 : Ld 10 = true := hpre 10 (List.mem_of_elem_eq_true (by kernel_rfl))
        have fg := hI.v10 p10
        cases hq : ((gh == kh) && fmE ⟨gh, S, T, gkh, M⟩ ⟨kh, S2, T2, kkh, M2⟩) with
        | false =>
          rw [hq] at fg
          exact J_un (hR.unwant rfl rfl rfl p10 fg) (hK _ _ { hI with v12 := fun _ h => nfC hq h })
        | true =>
          rw [hq] at fg
          refine J_g (hR.want rfl rfl rfl p10 fg) ?_
          have p11 : Ld 11 = true := hpre 11 (List.mem_of_elem_eq_true (by kernel_rfl))
          have f := (hR.ev 11 rfl rfl p11).trans (hI.v11 p11 hq)
          refine J_call rfl _ _ _ rfl enter_vals (by simp only [List.map_toArray, List.map_cons, List.map_nil, f]) (gVals_any _ _ W (GX.out.below hI.sv) sG) ?_
          rintro e w' ⟨A', c', rfl, hA, hb⟩
          exact ⟨_, rfl, hK _ _ { hI.move hb with v12 := fun _ _ => ⟨A', c', rfl, hA⟩ }⟩
      refine JSteps.cons (fun V Ld a W hLi hpre hR hI K hK => ?_) ?_
      · have p10 : Ld 10 = true := hpre 10 (List.mem_of_elem_eq_true (by kernel_rfl))
        have fg := hI.v10 p10
        cases hq : ((gh == kh) && fmE ⟨gh, S, T, gkh, M⟩ ⟨kh, S2, T2, kkh, M2⟩) with
        | false =>
          rw [hq] at fg
          exact J_un (hR.unwant rfl rfl rfl p10 fg) (hK _ _ { hI with v13 := fun _ h => nfC hq h })
        | true =>
          rw [hq] at fg
          refine J_g (hR.want rfl rfl rfl p10 fg) ?_
          have e := (hR.old 3 (by kernel_rfl)).trans (show _ = Value.pointer (some ⟨w.heap.size + 1, 0, none⟩) from rfl)
          exact J_load rfl _ (.tmp 3) rfl (by rw [e]; exact ld_gift (C2.out.below hI.sv)) (hK _ _ { hI with v13 := fun _ _ => rfl })
      refine JSteps.cons (fun V Ld a W hLi hpre hR hI K hK => ?_) ?_
      · have p10 : Ld 10 = true := hpre 10 (List.mem_of_elem_eq_true (by kernel_rfl))
        have fg := hI.v10 p10
        cases hq : ((gh == kh) && fmE ⟨gh, S, T, gkh, M⟩ ⟨kh, S2, T2, kkh, M2⟩) with
        | false =>
          rw [hq] at fg
          exact J_un (hR.unwant rfl rfl rfl p10 fg) (hK _ _ { hI with v14 := fun _ h => nfC hq h })
        | true =>
          rw [hq] at fg
          refine J_g (hR.want rfl rfl rfl p10 fg) ?_
          have p13 : Ld 13 = true := hpre 13 (List.mem_of_elem_eq_true (by kernel_rfl))
          have f := (hR.ev 13 rfl rfl p13).trans (hI.v13 p13 hq)
          refine J_call rfl _ _ _ rfl enter_vals (by simp only [List.map_toArray, List.map_cons, List.map_nil, f]) (gVals_any _ _ W (GY.out.below hI.sv) sK) ?_
          rintro e w' ⟨A', c', rfl, hA, hb⟩
          exact ⟨_, rfl, hK _ _ { hI.move hb with v14 := fun _ _ => ⟨A', c', rfl, hA⟩ }⟩
      refine JSteps.cons (fun V Ld a W hLi hpre hR hI K hK => ?_) ?_
      · have p10 : Ld 10 = true := hpre 10 (List.mem_of_elem_eq_true (by kernel_rfl))
        have fg := hI.v10 p10
        cases hq : ((gh == kh) && fmE ⟨gh, S, T, gkh, M⟩ ⟨kh, S2, T2, kkh, M2⟩) with
        | false =>
          rw [hq] at fg
          exact J_un (hR.unwant rfl rfl rfl p10 fg) (hK _ _ { hI with v15 := fun _ h => nfC hq h })
        | true =>
          rw [hq] at fg
          refine J_g (hR.want rfl rfl rfl p10 fg) ?_
          have p12 : Ld 12 = true := hpre 12 (List.mem_of_elem_eq_true (by kernel_rfl))
          have p14 : Ld 14 = true := hpre 14 (List.mem_of_elem_eq_true (by kernel_rfl))
          obtain ⟨A1, c1, e12, h12⟩ := hI.v12 p12 hq
          obtain ⟨A2, c2, e14, h14⟩ := hI.v14 p14 hq
          have f12 := (hR.ev 12 rfl rfl p12).trans e12
          have f14 := (hR.ev 14 rfl rfl p14).trans e14
          refine J_call rfl _ _ _ rfl enter_eqInts (by simp only [List.map_toArray, List.map_cons, List.map_nil, f12, f14]) (equalInts_any A1 A2 _ _ c1 c2 W h12 h14 hvl) ?_
          rintro e w' ⟨rfl, hb⟩
          exact ⟨_, rfl, hK _ _ { hI.move hb with v15 := fun _ _ => rfl }⟩
      refine JSteps.cons (fun V Ld a W hLi hpre hR hI K hK => ?_) ?_
      · have p10 : Ld 10 = true := hpre 10 (List.mem_of_elem_eq_true (by kernel_rfl))
        have fg := hI.v10 p10
        cases hq : ((gh == kh) && fmE ⟨gh, S, T, gkh, M⟩ ⟨kh, S2, T2, kkh, M2⟩) with
        | false =>
          rw [hq] at fg
          exact J_un (hR.unwant rfl rfl rfl p10 fg) (hK _ _ { hI with v16 := fun _ h => nfC hq h })
        | true =>
          rw [hq] at fg
          refine J_g (hR.want rfl rfl rfl p10 fg) ?_
          have p15 : Ld 15 = true := hpre 15 (List.mem_of_elem_eq_true (by kernel_rfl))
          have f := (hR.ev 15 rfl rfl p15).trans (hI.v15 p15 hq)
          exact J_unOp rfl .not _ (.tmp 26) rfl (by rw [f]; exact not_run _ W) (hK _ _ { hI with v16 := fun _ _ => rfl })
      refine JSteps.cons (fun V Ld a W hLi hpre hR hI K hK => ?_) ?_
      · have p10 : Ld 10 = true := hpre 10 (List.mem_of_elem_eq_true (by kernel_rfl))
        have p16 : Ld 16 = true := hpre 16 (List.mem_of_elem_eq_true (by kernel_rfl))
        have f10 := (hR.ev 10 rfl rfl p10).trans (hI.v10 p10)
        refine J_pick rfl (.tmp 21) (.tmp 27) (.const (.bool false)) rfl f10 (hK _ _ { hI with v17 := fun _ => ?_ })
        cases hq : ((gh == kh) && fmE ⟨gh, S, T, gkh, M⟩ ⟨kh, S2, T2, kkh, M2⟩) with
        | false => exact congrArg Value.bool (show false = difP ⟨gh, S, T, gkh, M⟩ ⟨kh, S2, T2, kkh, M2⟩ from by unfold difP; rw [hq]; rfl)
        | true => exact ((hR.ev 16 rfl rfl p16).trans (hI.v16 p16 hq)).trans (congrArg Value.bool (by unfold difP; rw [hq]; rfl))
      refine JSteps.cons (fun V Ld a W hLi hpre hR hI K hK => ?_) trivial
      · have p17 : Ld 17 = true := hpre 17 (List.mem_of_elem_eq_true (by kernel_rfl))
        have f17 := (hR.ev 17 rfl rfl p17).trans (hI.v17 p17)
        exact J_assign rfl (.tmp 28) rfl (hK _ _ { hI with v18 := fun _ => f17 })

    case refine_3 =>
      intro V Ld w3 hLd hI
      have e18 := hI.v18 (hLd 18 (by decide))
      have HF := Lib.hid (show RetB (.bool (difP ⟨gh, S, T, gkh, M⟩ ⟨kh, S2, T2, kkh, M2⟩)) w (.returned (.bool (difP ⟨gh, S, T, gkh, M⟩ ⟨kh, S2, T2, kkh, M2⟩))) w3 from RetB.bool rfl (below_trans HB2.out hI.sv))
      clear hI hLd
      simp only [finL, putL, Act.put, Nat.reduceAdd]
      rw [e18]
      clear e18
      generalize V 0 = r0
      generalize V 1 = r1
      generalize V 2 = r2
      generalize V 3 = r3
      generalize V 4 = r4
      generalize V 5 = r5
      generalize V 6 = r6
      generalize V 7 = r7
      generalize V 8 = r8
      generalize V 9 = r9
      generalize V 10 = r10
      generalize V 11 = r11
      generalize V 12 = r12
      generalize V 13 = r13
      generalize V 14 = r14
      generalize V 15 = r15
      generalize V 16 = r16
      generalize V 17 = r17
      clear V
      simp only [List.setIfInBounds_toArray, List.set_cons_succ, List.set_cons_zero]
      go_wp2_with fail
      go_ret
      exact HF.out
end Go.Proofs.YtjckpammcgeloaaDoor
namespace Go.Proofs.YtjckpammcgeloaaDoor
open Go.RowKit

def anyK (S T : List Shr) : Nat → Bool
  | 0 => false
  | k + 1 => anyK S T k || !sameL (vS S k) (vS T k)
theorem shpK_at {S T : List Shr} : ∀ k, (∀ j, j < k → hS S j = hS T j ∧ (vS S j).length = (vS T j).length) → shpK S k = shpK T k
  | 0, _ => rfl
  | k + 1, h => by
    simp only [shpK]
    rw [shpK_at k (fun j hj => h j (by omega)), (h k (by omega)).1, (h k (by omega)).2]
theorem shpK_inv {S T : List Shr} : ∀ k, shpK S k = shpK T k → ∀ j, j < k → hS S j = hS T j ∧ (vS S j).length = (vS T j).length
  | 0, _, j, hj => absurd hj (by omega)
  | k + 1, h, j, hj => by
    simp only [shpK] at h
    obtain ⟨h1, h2⟩ := List.append_inj h (by rw [shpK_len, shpK_len])
    by_cases hjk : j = k
    · subst hjk
      injection h2 with h3 h4
      injection h4 with h4
      exact ⟨h3, by omega⟩
    · exact shpK_inv k h1 j (by omega)
def fmS (S T : List Shr) : Bool := sameL (shpL S) (shpL T)
theorem fmS_len {S T : List Shr} (h : S.length ≠ T.length) : fmS S T = false := by
  unfold fmS sameL
  refine decide_eq_false fun e => h ?_
  have := congrArg List.length e
  rw [shpL, shpL, shpK_len, shpK_len] at this; omega
theorem fmS_at {S T : List Shr} {k : Nat} (hk : k < S.length) (h : ¬ (hS S k = hS T k ∧ (vS S k).length = (vS T k).length)) : fmS S T = false := by
  by_cases hl : S.length = T.length
  · unfold fmS sameL
    refine decide_eq_false fun e => h ?_
    rw [shpL, shpL, ← hl] at e
    exact shpK_inv _ e k hk
  · exact fmS_len hl
theorem fmS_all {S T : List Shr} (hl : S.length = T.length) (h : ∀ j, j < S.length → hS S j = hS T j ∧ (vS S j).length = (vS T j).length) : fmS S T = true := by
  unfold fmS sameL
  refine decide_eq_true ?_
  rw [shpL, shpL, ← hl]
  exact shpK_at _ h
/-- What the document's differ returns. -/
def dfV (S T : List Shr) : Value := .tuple #[.bool (fmS S T), .bool (fmS S T && anyK S T S.length)]
theorem dfV_no {S T : List Shr} (h : fmS S T = false) : .tuple #[.bool false, .bool false] = dfV S T := by unfold dfV; rw [h]; rfl
theorem dfV_yes {S T : List Shr} {b : Bool} (h : fmS S T = true) (hb : b = anyK S T S.length) : .tuple #[.bool true, .bool b] = dfV S T := by unfold dfV; rw [h, hb]; rfl
theorem retT {v u : Value} {w w' : World} (h : u = v) (hb : Below w.heap.size w w') : RetB v w (.returned u) w' := ⟨by rw [h], hb⟩

set_option maxRecDepth 100000 in
set_option maxHeartbeats 4000000 in
theorem refDiffer_any {P P' : Nat → Prop} (A A' : Option Addr) (S T : List Shr) (c c' : Nat) (w : World) (hA : ShP P w A c S) (hA' : ShP P' w A' c' T) (hsh : Short S) (hl : S.length ≤ 1048576) :
    Calls Tryd.prog 36 #[.slice A S.length c, .slice A' T.length c'] w (RetB (dfV S T) w) := by
  have HA := Lib.hid hA
  have HA' := Lib.hid hA'
  have HSH := Lib.hid hsh
  clear hA hA' hsh
  by_cases hlen : S.length = T.length
  · have HL := Lib.hid hlen
    have hlM : T.length ≤ S.length := by omega
    have hlM' : S.length ≤ T.length := by omega
    have t0 : ((S.length : Int) != (T.length : Int)) = false := by simp [hlen]
    clear hlen
    go_enter Tryd.func36, Tryd.ntmps36
    go_wp2_with fail
    go_loopw [6, 7] (fun o i wr => ∃ k : Nat, k ≤ S.length ∧ i = .int .i64 k ∧ o = .bool (anyK S T k) ∧ (∀ j, j < k → hS S j = hS T j ∧ (vS S j).length = (vS T j).length) ∧ Below w.heap.size w wr) (fun _ i _ => S.length - (intOf i).toNat)
    case atStart => exact ⟨0, Nat.zero_le _, rfl, rfl, fun j hj => absurd hj (by omega), Below.refl _ _⟩
    case round =>
      obtain ⟨k, hk, rfl, rfl, hpre, hbr⟩ := hrel
      have HP := Lib.hid hpre
      clear hpre
      by_cases hlt : k < S.length
      · obtain ⟨b, off, B, c1, rfl, hb, -, x0, x1, x2⟩ := (HA.out.below hbr).at_ k hlt
        obtain ⟨b', off', B', c1', rfl, hb', -, y0, y1, y2⟩ := (HA'.out.below hbr).at_ k (by omega)
        have hvl := HSH.out k hlt
        have i1 : (0 : Int) ≤ (k : Int) := by omega
        have i2 : (k : Int) < (S.length : Int) := by omega
        have i3 : (k : Int) < (T.length : Int) := by omega
        have HN := Lib.hid (fun h => fmS_at (S := S) (T := T) hlt h)
        have HS := Lib.hid (show anyK S T (k + 1) = (anyK S T k || !sameL (vS S k) (vS T k)) from rfl)
        have HX := Lib.hid x2.ints
        have HY := Lib.hid y2.ints
        clear x2 y2
        generalize hx : hS S k = x at *
        generalize hL : vS S k = L at *
        generalize hy : hS T k = y at *
        generalize hM : vS T k = M at *
        have HE := Lib.hid (And.intro hx (And.intro hL (And.intro hy hM)))
        clear hx hL hy hM
        by_cases hxy : x = y
        · have t1 : (x != y) = false := by simp [hxy]
          by_cases hlm : L.length = M.length
          · have HQ := Lib.hid (And.intro hxy hlm)
            have t2 : ((L.length : Int) != (M.length : Int)) = false := by simp [hlm]
            clear hxy hlm
            go_wp2_with fail
            go_quiet (fail)
            go_wp2_with fail
            refine gen_world fun w5 hw5 => ?_
            have hb5 : Below wr.heap.size wr w5 := by rw [hw5]; exact below_drewN (Below.refl _ _) _
            clear hw5
            have z1 := (hb5.cell (p := ⟨b, off + k * 2 + 1, none⟩) hb).trans x1
            have z2 := (hb5.cell (p := ⟨b', off' + k * 2 + 1, none⟩) hb').trans y1
            replace HX := Lib.hid (HX.out.below hb5)
            replace HY := Lib.hid (HY.out.below hb5)
            have hbw := below_trans hbr hb5
            clear x0 x1 y0 y1
            cases ho : anyK S T k with
            | true =>
              have HO := Lib.hid ho
              clear ho
              go_quiet (fail)
              go_wp2_with fail
              go_roundw
              case rel =>
                refine ⟨k + 1, by omega, by go_num, by rw [HS.out, HO.out]; rfl, fun j hj => ?_, below_drewN hbw _⟩
                by_cases hjk : j = k
                · subst hjk; rw [HE.out.1, HE.out.2.1, HE.out.2.2.1, HE.out.2.2.2]; exact HQ.out
                · exact HP.out j (by omega)
              case measure => simp [intOf]; omega
            | false =>
              have HO := Lib.hid ho
              clear ho
              go_quiet ((go_at_call 42; exact Calls.quiet_of_same (same_any B B' L M c1 c1' _ HX.out HY.out (by omega))))
              go_wp2_with fail
              go_roundw
              case rel =>
                refine ⟨k + 1, by omega, by go_num, by rw [HS.out, HO.out]; rfl, fun j hj => ?_, below_drewN hbw _⟩
                by_cases hjk : j = k
                · subst hjk; rw [HE.out.1, HE.out.2.1, HE.out.2.2.1, HE.out.2.2.2]; exact HQ.out
                · exact HP.out j (by omega)
              case measure => simp [intOf]; omega
          · have HV := Lib.hid (dfV_no (HN.out (fun e => hlm e.2)))
            have t2 : ((L.length : Int) != (M.length : Int)) = true := by simp; omega
            clear hxy hlm
            go_wp2_with fail
            go_quiet (fail)
            go_wp2_with fail
            go_ret2
            exact retT HV.out (below_drewN hbr _)
        · have HV := Lib.hid (dfV_no (HN.out (fun e => hxy e.1)))
          have t1 : (x != y) = true := by simp [hxy]
          clear hxy
          go_wp2_with fail
          go_quiet (fail)
          go_wp2_with fail
          go_ret2
          exact retT HV.out (below_drewN hbr _)
      · have hke : k = S.length := by omega
        have HV := Lib.hid (dfV_yes (S := S) (T := T) (b := anyK S T k) (fmS_all HL.out (fun j hj => HP.out j (by omega))) (by rw [hke]))
        clear hke
        go_wp2_with fail
        go_ret2
        exact retT HV.out hbr
  · have HV := Lib.hid (dfV_no (fmS_len hlen))
    have t0 : ((S.length : Int) != (T.length : Int)) = true := by simp; omega
    clear hlen
    go_enter Tryd.func36, Tryd.ntmps36
    go_wp2_with fail
    go_ret2
    exact retT HV.out (Below.refl _ _)
end Go.Proofs.YtjckpammcgeloaaDoor
