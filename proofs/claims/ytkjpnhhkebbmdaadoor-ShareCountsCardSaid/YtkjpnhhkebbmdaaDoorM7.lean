/-
  Shares: sums of shares are shares of sums; lists of shares under way whose values lie anywhere.
  ShareCounts: the walk.
  A slice of numbers that came in reads as a list.
  Conditions: those that each theorem names.
-/
import Derived.Test.YtkjpnhhkebbmdaaDoorM6
import Derived.Deep.CutRange
set_option linter.unusedVariables false
set_option linter.unusedSimpArgs false
namespace Go.Proofs.YtkjpnhhkebbmdaaDoor
open Go.RowKit

/-! ### Sums -/
theorem cg_evs {p x : Nat} (L : List Nat) (n : Nat) (h : L.length ≤ n) : Cg p (evN p L x : Nat) (sumI n fun k => (nthN L k : Int) * x ^ k) := (cg_ev p x L).trans (.of_eq (evalZ_sum x L n h))
theorem ev_lin {p : Nat} (hp : 1 ≤ p) (F G : List Nat) (c x : Nat) : evN p (linN p F G c) x = fadd p (evN p F x) (fmul p c (evN p G x)) := by
  refine Cg.nat ((cg_evs (linN p F G c) (max F.length G.length) (by rw [linN_len]; exact Nat.le_refl _)).trans ?_) (evN_lt hp _ _) (fadd_lt hp _ _)
  refine (sumI_cg (g := fun k => (nthN F k : Int) * x ^ k + c * ((nthN G k : Int) * x ^ k)) _ fun k hk => ?_).trans ?_
  · rw [linN_nth hk]
    refine (((cg_add p _ _).trans ((Cg.refl p _).add (cg_mul p _ _))).mul (Cg.refl p _)).trans (.of_eq (by grind))
  · rw [sumI_add, sumI_mul]
    exact ((cg_add p _ _).trans ((cg_evs F _ (Nat.le_max_left _ _)).add ((cg_mul p _ _).trans ((Cg.refl p _).mul (cg_evs G _ (Nat.le_max_right _ _)))))).symm
theorem lin_one {p y : Nat} (h : y < p) : fmul p 1 (fadd p 0 y) = y := by unfold fmul fadd; rw [Nat.one_mul, Nat.zero_add, Nat.mod_mod, Nat.mod_eq_of_lt h]
theorem lin0_len {p c : Nat} {M : List Nat} : (linN p [] M c).length = M.length := by rw [linN_len]; simp
def sumV (p : Nat) (L M : List Nat) (c : Nat) : List Nat := linN p L (linN p [] M c) 1
theorem sumV_len {p c : Nat} {L M : List Nat} (h : L.length = M.length) : (sumV p L M c).length = L.length := by simp [sumV, linN_len, h]
theorem sumV_nth {p c i : Nat} {L M : List Nat} (hp : 1 ≤ p) (h : L.length = M.length) (hi : i < L.length) : nthN (sumV p L M c) i = fadd p (nthN L i) (fmul p c (nthN M i)) := by
  unfold sumV
  rw [linN_nth (by rw [linN_len]; omega), linN_nth (by simp; omega), nthN_nil, lin_one (fmul_lt hp _ _)]
/-- The shares N and c times M. -/
def addT (p c : Nat) (N M : List ShN) : List ShN := (List.range N.length).map fun k => (hN N k, sumV p (vN N k) (vN M k) c)
theorem addT_len (p c : Nat) (N M : List ShN) : (addT p c N M).length = N.length := by simp [addT]
theorem addT_at {p c k : Nat} {N M : List ShN} (h : k < N.length) : hN (addT p c N M) k = hN N k ∧ vN (addT p c N M) k = sumV p (vN N k) (vN M k) c := by
  simp [addT, hN, vN, List.getD_eq_getElem?_getD, h]
theorem addT_take {p c k : Nat} {N M : List ShN} (h : k < N.length) : (addT p c N M).take (k + 1) = (addT p c N M).take k ++ [(hN N k, sumV p (vN N k) (vN M k) c)] := by
  rw [List.take_succ_eq_append_getElem (by rw [addT_len]; exact h), getD_at (by rw [addT_len]; exact h), (addT_at h).1, (addT_at h).2]
theorem add_on {p h m c : Nat} {F G : Nat → List Nat} {N M : List ShN} (hp : 1 ≤ p) (H : OnP p h m F N) (K : OnP p h m G M) (hl : M.length = N.length) (hh : ∀ k, k < N.length → hN M k = hN N k) :
    OnP p h m (fun i => linN p (F i) (G i) c) (addT p c N M) := by
  refine ⟨fun s hs => ?_, ?_⟩
  · obtain ⟨k, hk, rfl⟩ := shl_mem hs
    rw [addT_len] at hk
    rw [(addT_at hk).1, (addT_at hk).2]
    obtain ⟨h1, h2, h3⟩ := H.at_ hk
    obtain ⟨-, -, k3⟩ := K.at_ (show k < M.length by omega)
    refine ⟨h1, h2, ?_⟩
    simp only
    rw [hh k hk] at k3
    have l1 : (vN N k).length = m := by rw [h3]; simp
    have l2 : (vN M k).length = m := by rw [k3]; simp
    refine extN (by rw [sumV_len (by omega)]; simp [l1]) fun i hi => ?_
    rw [sumV_len (by omega)] at hi
    rw [sumV_nth hp (by omega) hi, h3, k3, nthN_eq (by simpa [l1] using hi), nthN_eq (by simpa [l1] using hi), nthN_eq (by simpa [l1] using hi)]
    simp [ev_lin hp]
  · refine nodup_hsN fun k hk j hj => ?_
    rw [addT_len] at hk
    rw [(addT_at hk).1, (addT_at (show j < N.length by omega)).1]
    exact (hsN_ne H.nd (show j < N.length by omega) hk (by omega))
theorem Made.add {p n h c : Nat} {a b : List Nat} {N M : List ShN} (hp : 1 ≤ p) (H : Made p n h a N) (K : Made p n h b M) (hab : a.length = b.length) (hl : M.length = N.length) (hh : ∀ k, k < N.length → hN M k = hN N k) :
    Made p n h (linN p a b c) (addT p c N M) := by
  obtain ⟨F, h1, h2, h3⟩ := H.ex
  obtain ⟨G, k1, k2, k3⟩ := K.ex
  have hle : (linN p a b c).length = a.length := by rw [linN_len]; omega
  rw [← hab] at k1 k2
  refine ⟨fun i => linN p (F i) (G i) c, by rw [hle]; exact add_on hp h1 k1 hl hh, fun i hi => ?_, ?_⟩
  · rw [hle] at hi
    have := h2 i hi; have := k2 i hi
    rw [linN_len]; omega
  · refine extN (by simp) fun i hi => ?_
    have hi' : i < a.length := by simpa [hle] using hi
    have e1 : nthN a i = evN p (F i) 0 := by
      conv => lhs; rw [← h3]
      rw [nthN_eq (by simpa using hi')]; simp
    have e2 : nthN b i = evN p (G i) 0 := by
      conv => lhs; rw [← k3]
      rw [nthN_eq (by simp; omega)]; simp
    rw [nthN_eq hi, linN_nth (by omega), e1, e2]
    simp [ev_lin hp]
theorem deal_hold {p n h k : Nat} {a b ra rb : List Nat} (hk : k < (dealN p n h a ra).length) : hN (dealN p n h b rb) k = hN (dealN p n h a ra) k := by
  rw [deal_len] at hk
  unfold dealN
  rw [(dealtT_at hk).1, (dealtT_at hk).1]

theorem random_nat (p n h q rl : Nat) (w : World) (hrl : rl = q * (n - 1)) (hn : 1 ≤ n) (hn2 : n ≤ 1000) (hq : q ≤ 1048576) :
    Calls Tryd.prog 23 #[planV p n h, .int .i64 (q : Int)] w (RetB (.int .i64 (rl : Int)) w) := by
  have := random_any p n h q w (by omega) (by omega) (by omega) (by omega)
  rw [show (q : Int) * ((n : Int) - 1) = ((rl : Nat) : Int) from by rw [hrl, show ((n : Int) - 1) = ((n - 1 : Nat) : Int) by omega]; push_cast; rfl] at this
  exact this
theorem gen_calls {P : Program} {f : FuncId} {args : Array Value} {w : World} {Q : Ending → World → Prop} (h : ∀ w', w' = w → Calls P f args w' Q) : Calls P f args w Q := h w rfl
theorem deal_row {p n h k : Nat} {sec ran : List Nat} (hp : 1 ≤ p) (hk : k < h) : hN (dealN p n h sec ran) k = k + 1 ∧ (vN (dealN p n h sec ran) k).length = sec.length ∧ ∀ y ∈ vN (dealN p n h sec ran) k, y < p := by
  unfold dealN
  rw [(dealtT_at hk).1, (dealtT_at hk).2]
  refine ⟨rfl, by simp, fun y hy => ?_⟩
  obtain ⟨i, -, rfl⟩ := List.mem_map.1 hy
  exact evN_lt hp _ _

/-! ### A share that a call returned, laid into a variable: the variable is made before or behind the call -/
theorem bl_refl (w : World) : Below w.heap.size w w := Below.refl _ w
theorem bl_drew {w0 w : World} (h : Below w0.heap.size w0 w) : Below w0.heap.size w0 w.drew := h.drew
theorem bl_alloc {w0 w : World} (o : Obj) (h : Below w0.heap.size w0 w) : Below w0.heap.size w0 (w.alloc o) := below_trans h (below_alloc _ _)
abbrev shO : Obj := .cells #[.int .i64 0, .slice none 0 0] 47
structure ShNew (w0 w : World) (g : Nat) (x : Int) (A : Option Addr) (c : Nat) (L : List Nat) : Prop where
  cell : ShCell w g x (.slice A L.length c)
  nats : NatsAt w A L
  ok : SlOK A c L
  off : ∀ b off, A = some ⟨b, off, none⟩ → w0.heap.size ≤ b ∧ b < w.heap.size
  low : w0.heap.size ≤ g
  below : Below w0.heap.size w0 w
theorem ShNew.drew {w0 w : World} {g : Nat} {x : Int} {A : Option Addr} {c : Nat} {L : List Nat} (h : ShNew w0 w g x A c L) : ShNew w0 w.drew g x A c L := ⟨h.cell, h.nats, h.ok, h.off, h.low, h.below.drew⟩
theorem ShNew.early {w0 W w : World} {g : Nat} {x : Int} {A : Option Addr} {c : Nat} {L : List Nat} (hR : ShCell W g 0 (.slice none 0 0)) (hg : w0.heap.size ≤ g) (hW : Below w0.heap.size w0 W) (hb : Below W.heap.size W w) (hN : NatsAt w A L) (hS : SlOK A c L) (hO : ∀ b off, A = some ⟨b, off, none⟩ → W.heap.size ≤ b ∧ b < w.heap.size) :
    ShNew w0 ((w.setCell ⟨g, 0, none⟩ (.int .i64 x)).setCell ⟨g, 1, none⟩ (.slice A L.length c)) g x A c L := by
  have hl := hR.lt
  refine ⟨shcell_fill (hR.below hb) x _, nats_set2 hN (fun b off e => by have := hO b off e; omega), hS, fun b off e => ?_, hg, below_set2 (below_trans hW hb) hg _ _⟩
  rw [size_set2]
  have := hO b off e
  have := hW.size
  omega
theorem ShNew.late {w0 w : World} {x : Int} {A : Option Addr} {c : Nat} {L : List Nat} (hb : Below w0.heap.size w0 w) (hN : NatsAt w A L) (hS : SlOK A c L) (hO : ∀ b off, A = some ⟨b, off, none⟩ → w0.heap.size ≤ b ∧ b < w.heap.size) :
    ShNew w0 (w.alloc (.cells #[.int .i64 x, .slice A L.length c] 47)) w.heap.size x A c L :=
  ⟨ShCell.new _ _ rfl, hN.below (below_alloc _ _), hS, fun b off e => by rw [size_alloc]; have := hO b off e; omega, hb.size, bl_alloc _ hb⟩
theorem gen_last {α : Type} {f : α → World → Prop} {a : α} {w : World} (h : ∀ w', w' = w → f a w') : f a w := h w rfl

/-! ### Lists of shares under way -/
structure RowsV (Q : Nat → Prop) (w : World) (base : Nat) (v : Value) (S : List Shr) : Prop where
  ex : ∃ H : List HV, HvOwn w base v H ∧ H.length = S.length ∧ ∀ k, k < S.length → (hvAt H k).1 = hS S k ∧ ∃ B c, (hvAt H k).2 = .slice B (vS S k).length c ∧ IntsP (fun b => Q b ∧ v.ownBlock ≠ some b) w B c (vS S k)
theorem RowsV.nil (Q : Nat → Prop) (w : World) (base : Nat) : RowsV Q w base (.slice none 0 0) [] := ⟨[], HvOwn.nil _ _, rfl, fun k hk => absurd hk (by simp)⟩
theorem RowsV.kept {Q : Nat → Prop} {w w' : World} {base : Nat} {v : Value} {S : List Shr} {row : Option Nat} (h : RowsV Q w base v S) (hg : w.grownBy w' row) (h1 : v.ownBlock = none ∨ v.ownBlock ≠ row) (h2 : ∀ b, Q b → row ≠ some b) : RowsV Q w' base v S := by
  obtain ⟨H, e1, e2, e3⟩ := h.ex
  refine ⟨H, e1.kept hg h1, e2, fun k hk => ?_⟩
  obtain ⟨f1, B, c, f2, f3⟩ := e3 k hk
  exact ⟨f1, B, c, f2, f3.keep ⟨hg.size, fun b hb hlt => hg.block b hlt (fun e => h2 b hb.1 e.symm)⟩⟩
theorem RowsV.below {Q : Nat → Prop} {w w' : World} {base : Nat} {v : Value} {S : List Shr} (h : RowsV Q w base v S) (hb : Below w.heap.size w w') : RowsV Q w' base v S := by
  obtain ⟨H, e1, e2, e3⟩ := h.ex
  refine ⟨H, e1.below hb, e2, fun k hk => ?_⟩
  obtain ⟨f1, B, c, f2, f3⟩ := e3 k hk
  exact ⟨f1, B, c, f2, f3.keep (Kept.below hb)⟩
theorem RowsV.more {Q : Nat → Prop} {w w' : World} {base : Nat} {v v' : Value} {H : List HV} {S : List Shr} (e2 : H.length = S.length)
    (e3 : ∀ k, k < S.length → (hvAt H k).1 = hS S k ∧ ∃ B c, (hvAt H k).2 = .slice B (vS S k).length c ∧ IntsP (fun b => Q b ∧ v.ownBlock ≠ some b) w B c (vS S k))
    (x : Int) (L : List Int) {B : Option Addr} {c : Nat} (hI : IntsP (fun b => Q b ∧ v.ownBlock ≠ some b) w B c L) (hown : HvOwn w' base v' (H ++ [(x, .slice B L.length c)])) (hg : w.grownBy w' v.ownBlock)
    (hv : v'.ownBlock = v.ownBlock ∨ v'.ownBlock = some w.heap.size) : RowsV Q w' base v' (S ++ [(x, L)]) := by
  have key : ∀ {B : Option Addr} {c : Nat} {L : List Int}, IntsP (fun b => Q b ∧ v.ownBlock ≠ some b) w B c L → IntsP (fun b => Q b ∧ v'.ownBlock ≠ some b) w' B c L := fun hI =>
    ((hI.mono (Q := fun b => (Q b ∧ v'.ownBlock ≠ some b) ∧ v.ownBlock ≠ some b) (fun b hlt hb => ⟨⟨hb.1, fun e => by
      rcases hv with h | h
      · exact hb.2 (h ▸ e)
      · rw [h] at e; injection e with e; omega⟩, hb.2⟩)).keep (w' := w') ⟨hg.size, fun b hb hlt => hg.block b hlt (fun e => hb.2 e.symm)⟩).mono (fun b _ hb => hb.1)
  refine ⟨_, hown, by simp [e2], fun k hk => ?_⟩
  rcases Nat.lt_or_ge k S.length with h | h
  · obtain ⟨f1, B', c', f2, f3⟩ := e3 k h
    rw [hvAt_append (by omega), (hS_append h).1, (hS_append h).2]
    exact ⟨f1, B', c', f2, key f3⟩
  · obtain rfl : k = S.length := by simp at hk; omega
    rw [hS_last.1, hS_last.2]
    rw [show S.length = H.length from e2.symm, hvAt_last]
    exact ⟨rfl, B, c, rfl, key hI⟩
theorem RowsV.read {Q : Nat → Prop} {w : World} {base : Nat} {v : Value} {S : List Shr} (h : RowsV Q w base v S) : ∃ A c, v = .slice A S.length c ∧ ShP (fun b => base ≤ b ∨ Q b) w A c S := by
  obtain ⟨H, e1, e2, e3⟩ := h.ex
  rcases Nat.eq_zero_or_pos S.length with h0 | h0
  · have : S = [] := List.eq_nil_of_length_eq_zero h0
    subst this
    have hH : H = [] := List.eq_nil_of_length_eq_zero e2
    subst hH
    rcases e1.2 with ⟨rfl, -⟩ | ⟨g, cap, cur, rfl, hg, hh, hnc, hcm, hcs, htk⟩
    · exact ⟨none, 0, rfl, ShP.nil _ _⟩
    · exact ⟨_, cap, rfl, fun k hk => absurd hk (by simp), ⟨Nat.zero_le _, hcm, (fun e => by cases e), .inl rfl⟩⟩
  · obtain ⟨g, c, rfl, hg, hbg, hlc, hcm, hcell, -⟩ := e1.form (by rw [e2]; exact h0)
    refine ⟨some ⟨g, 0, none⟩, c, by rw [e2], fun k hk => ?_, ⟨by rw [← e2]; exact hlc, hcm, (fun e => by cases e), .inr (fun a e => by injection e with e; subst e; rfl)⟩⟩
    obtain ⟨f1, B, c', f2, f3⟩ := e3 k hk
    obtain ⟨c1, c2⟩ := hcell k (by rw [e2]; exact hk)
    refine ⟨g, 0, B, c', rfl, hg, .inl hbg, ?_, ?_, f3.mono (fun b _ hb => .inr hb.1)⟩
    · rw [Nat.zero_add, c1, f1]
    · rw [Nat.zero_add, c2, f2]
theorem ShNew.ints {wr w9 W : World} {base g : Nat} {x : Int} {v : Value} {A : Option Addr} {c : Nat} {L : List Nat} {S : List Shr} (h : ShNew wr w9 g x A c L) (hR : RowsV (fun b => base ≤ b) wr base v S) (hb : base ≤ wr.heap.size) (hw : Below w9.heap.size w9 W) :
    IntsP (fun b => base ≤ b ∧ v.ownBlock ≠ some b) W A c (ofN L) := by
  obtain ⟨H, e1, -, -⟩ := hR.ex
  refine ⟨(h.nats.below hw).ints, by rw [len_ofN]; exact h.ok.iok, fun b off e => .inr ⟨by have := h.off b off e; omega, fun e2 => ?_⟩⟩
  have := (World.ownsRow.lt e1 b e2).2
  have := h.off b off e
  omega
/-- One share more, that lies in a variable. -/
theorem RowsV.put {wr w9 W w4 : World} {base g : Nat} {x : Nat} {v v4 : Value} {A : Option Addr} {c : Nat} {L : List Nat} {T T' : List ShN} {H : List HV} (hR : RowsV (fun b => base ≤ b) wr base v (shL T)) (hN : ShNew wr w9 g x A c L) (hb : base ≤ wr.heap.size) (hW : W = w9.alloc (.cells #[.int .i64 (x : Int), .slice A L.length c] 47))
    (hH : HvOwn W base v H ∧ H.length = (shL T).length ∧ ∀ k, k < (shL T).length → (hvAt H k).1 = hS (shL T) k ∧ ∃ B c, (hvAt H k).2 = .slice B (vS (shL T) k).length c ∧ IntsP (fun b => base ≤ b ∧ v.ownBlock ≠ some b) W B c (vS (shL T) k))
    (hown : HvOwn w4 base v4 (H ++ [((x : Int), .slice A L.length c)])) (hg : W.grownBy w4 v.ownBlock) (hv : v4.ownBlock = v.ownBlock ∨ v4.ownBlock = some W.heap.size) (hT : T' = T ++ [(x, L)]) : RowsV (fun b => base ≤ b) w4 base v4 (shL T') := by
  subst hW hT
  rw [show shL (T ++ [(x, L)]) = shL T ++ [((x : Int), ofN L)] from by simp [shL, shI]]
  exact RowsV.more hH.2.1 hH.2.2 x (ofN L) (hN.ints hR hb (below_alloc _ _)) (by rw [len_ofN]; exact hown) hg hv
end Go.Proofs.YtkjpnhhkebbmdaaDoor
namespace Go.Proofs.YtkjpnhhkebbmdaaDoor
open Go.RowKit

attribute [local go_sem high] sliced_low
set_option maxRecDepth 100000 in
set_option maxHeartbeats 8000000 in
theorem shareCounts_walk (x y a b : Int) (w : World) (hB : Bases w) (hx : 0 ≤ x ∧ x ≤ 255) (hy : 0 ≤ y ∧ y ≤ 255) (ha : 0 ≤ a ∧ a ≤ 255) (hb : 0 ≤ b ∧ b ≤ 255) :
    Calls Tryd.prog 4 #[.int .u8 x, .int .u8 y, .int .u8 a, .int .u8 b] w (RetB (.bool true) w) := by
  have HB := Lib.hid hB
  clear hB
  obtain ⟨s0, hs0⟩ : ∃ s : Nat, a % 5 = (s : Int) := ⟨(a % 5).toNat, by omega⟩
  obtain ⟨s1, hs1⟩ : ∃ s : Nat, b % 5 = (s : Int) := ⟨(b % 5).toNat, by omega⟩
  have hs0l : s0 < 5 := by omega
  have hs1l : s1 < 5 := by omega
  obtain ⟨q, hq⟩ : ∃ s : Nat, 1 + x % 4 = (s : Int) := ⟨(1 + x % 4).toNat, by omega⟩
  have hq1 : 1 ≤ q := by omega
  have hq4 : q ≤ 4 := by omega
  obtain ⟨m3, hm3⟩ : ∃ s : Nat, 1 + y % 3 = (s : Int) := ⟨(1 + y % 3).toNat, by omega⟩
  have hm31 : 1 ≤ m3 := by omega
  have hm33 : m3 ≤ 3 := by omega
  have yh := Int.emod_nonneg y (b := (q : Int)) (by omega)
  have yh' := Int.emod_lt_of_pos y (b := (q : Int)) (by omega)
  obtain ⟨mh, hmh⟩ : ∃ s : Nat, 1 + y % (q : Int) = (s : Int) := ⟨(1 + y % (q : Int)).toNat, by omega⟩
  have hmh1 : 1 ≤ mh := by omega
  have hmhh : mh ≤ q := by omega
  have hw3 : wrap64 (m3 : Int) = (m3 : Int) := IntWalk.wrap64_in _ (by omega)
  have hwh : wrap64 (mh : Int) = (mh : Int) := IntWalk.wrap64_in _ (by omega)
  have hty : (wrap64 y).tmod (q : Int) = y % (q : Int) := cnt_aux3 hy
  have hty3 : (wrap64 y).tmod 3 = y % 3 := cnt_aux3 hy
  have HM3 := Lib.hid (cnt_aux1 (q := q) hm33)
  have HMH := Lib.hid (cnt_aux2 hmhh)
  go_enter Tryd.func4, Tryd.ntmps4
  go_upto_region 2 with fail
  go_cut [] from 26 to 38 (fun wx => ∃ n q : Nat, 1 ≤ n ∧ n ≤ q ∧ q ≤ 4 ∧ n ≤ 3 ∧ wx = w.alloc (.cells #[.int .i64 5, .int .i64 (n : Int), .int .i64 (q : Int)] 24))
  case first =>
    go_wp2_with fail
    all_goals
      go_meet
      case rel =>
        (try rw [hw3])
        (try rw [hwh])
        first
        | exact ⟨m3, q, hm31, HM3.out (by assumption), hq4, hm33, rfl⟩
        | exact ⟨mh, q, hmh1, hmhh, hq4, HMH.out (by assumption), rfl⟩
  case rest =>
  clear hty hty3 hq hq1 hq4 hm3 hm31 hm33 yh yh' hmh hmh1 hmhh hw3 hwh HM3 HMH q m3 mh
  obtain ⟨n, q, hn1, hnq, hq4, hn3, rfl⟩ := hcut
  obtain ⟨k, hk⟩ : ∃ k, k = n - 1 := ⟨_, rfl⟩
  have hkn : k + 1 = n := by omega
  have hk3 : k < 3 := by omega
  have hwk : IntKind.i64.wrap ((n : Int) - 1) = (k : Int) := by rw [IntWalk.i64_in _ (by omega)]; omega
  have HKN := Lib.hid hkn
  have HPN := Lib.hid (PlanN.mk' (p := 5) (n := n) (h := q) prime_5 (by omega) hn1 hnq (by omega) (by omega))
  clear hk hkn hx hy
  go_wp2_with fail
  refine gen_world fun w3 hw3 => ?_
  have HPC : Hid (PlanCell w3 w.heap.size 5 n q) := Lib.hid (by rw [hw3]; exact (PlanCell.new _ _ _ rfl).alloc _)
  have HCT : Hid (CtAt w3 (w.heap.size + 1) (stF k (fun i => if i = 0 then s0 else s1) (powN k) 0 0)) := Lib.hid (by rw [hw3]; exact CtAt.new _ _ _ _ (by simp))
  have HBL : Hid (Below w.heap.size w w3) := Lib.hid (by rw [hw3]; exact bl_alloc _ (bl_alloc _ (bl_refl _)))
  have hgx : w.heap.size < w.heap.size + 1 := by omega
  obtain ⟨SL, hSL⟩ : ∃ SL : Nat → Nat, SL = fun i => if i = 0 then s0 else s1 := ⟨_, rfl⟩
  rw [← hSL] at HCT
  have HSL := Lib.hid (show SL 0 = s0 ∧ SL 1 = s1 ∧ ∀ i, SL i < 5 from by rw [hSL]; refine ⟨rfl, rfl, fun i => ?_⟩; show (if i = 0 then s0 else s1) < 5; split <;> assumption)
  have hxlt := HPC.out.lt
  have hglt := HCT.out.lt
  generalize hpx : w.heap.size = px at *
  generalize hg : px + 1 = g at *
  have hne : px < g := by omega
  have HPX := Lib.hid hpx
  clear hw3 hSL hg hpx
  go_loop [13, 48] (fun t i => ∃ j : Nat, j ≤ k ∧ i = .int .i64 j ∧ t = .int .i64 (powN j)) (fun _ i => k - (intOf i).toNat)
  case atStart => exact ⟨0, Nat.zero_le _, rfl, rfl⟩
  case round =>
    obtain ⟨j, hj, rfl, rfl⟩ := hrel
    by_cases hjl : j < k
    · obtain ⟨hp1, hp2⟩ := powN_bd (k := j) (by omega)
      have HPW := Lib.hid (show ((powN (j + 1) : Nat) : Int) = (powN j : Int) * 5 from by show ((powN j * 5 : Nat) : Int) = _; push_cast; rfl)
      generalize powN j = pj at *
      go_wp2_with fail
      go_round
      case rel => exact ⟨j + 1, by omega, by go_num, by rw [HPW.out]⟩
      case measure => simp [intOf]; omega
    · obtain rfl : k = j := by omega
      obtain ⟨hp1, hp2⟩ := powN_bd (k := k) (by omega)
      obtain ⟨t, ht⟩ : ∃ t, t = powN k := ⟨_, rfl⟩
      rw [← ht] at hp1 hp2 HCT
      rw [← ht]
      have HT := Lib.hid ht
      clear ht
      have p0 := HPC.out.c0
      have p1 := HPC.out.c1
      have p2 := HPC.out.c2
      clear hjl hj
      go_wp2_with fail
      refine gen_world fun w4 hw4 => ?_
      have hb4 : Below w3.heap.size w3 w4 := by rw [hw4]; exact below_alloc _ _
      have HLI : Hid (NatBlk w4 w3.heap.size [s0, s1]) := Lib.hid (by rw [hw4]; exact lit2_atS _ _ _ _ rfl)
      have HS0 : Hid (CSt w w4 px g n q w3.heap.size s0 s1 (stF k SL t 0 0)) := Lib.hid ⟨HBL.out.trans (hb4.mono (by omega)), HPC.out.below hb4, HCT.out.below hb4, HLI.out, HPX.out, by omega, by have := HCT.out.lt; omega⟩
      clear hw4 hb4 HLI HCT HPC HBL p0 p1 p2 hxlt hglt
      generalize w3.heap.size = sl at *
      go_loopw [57] (fun i wr => ∃ A : Nat, A ≤ 2 ∧ i = .int .i64 A ∧ CSt w wr px g n q sl s0 s1 (stF k SL t A 0)) (fun i _ => 2 - (intOf i).toNat)
      case atStart => exact ⟨0, Nat.zero_le _, rfl, HS0.out⟩
      case round =>
        clear HS0
        obtain ⟨A, hA, rfl, hSt⟩ := hrel
        have HST := Lib.hid hSt
        clear hSt
        by_cases hA2 : A < 2
        · have i1 : (0 : Int) ≤ (A : Int) := by omega
          have i2 : (A : Int) < 2 := by omega
          have l0 := HST.out.lit A hA2
          obtain ⟨sA, hsA⟩ : ∃ s, s = SL A := ⟨_, rfl⟩
          have hsA5 : sA < 5 := by rw [hsA]; exact HSL.out.2.2 A
          have HSA := Lib.hid hsA
          have l1 : wr.cell? ⟨sl, A, none⟩ = some (.int .i64 (sA : Nat)) := by
            rw [l0, hsA]
            obtain rfl | rfl : A = 0 ∨ A = 1 := by omega
            · rw [HSL.out.1]; rfl
            · rw [HSL.out.2.1]; rfl
          clear l0 hsA
          go_wp2_with fail
          clear l1
          obtain ⟨wo, hwo⟩ : ∃ wo, wo = wr := ⟨_, rfl⟩
          rw [← hwo] at HST ⊢
          clear hwo
          go_loopw [63] (fun i wr => ∃ m : Nat, m ≤ t ∧ i = .int .i64 m ∧ CSt w wr px g n q sl s0 s1 (stF k SL t A m)) (fun i _ => t - (intOf i).toNat)
          case atStart => exact ⟨0, Nat.zero_le _, rfl, HST.out⟩
          case round =>
            clear HST
            obtain ⟨m, hm, rfl, hSt⟩ := hrel
            have HST := Lib.hid hSt
            have p0 := hSt.pl.c0
            have p1 := hSt.pl.c1
            have p2 := hSt.pl.c2
            clear hSt
            by_cases hmt : m < t
            · go_wp2_with fail
              obtain ⟨wi, hwi⟩ : ∃ wi, wi = wr := ⟨_, rfl⟩
              rw [← hwi] at HST p0 p1 p2 ⊢
              clear hwi
              go_loopw [17, 18, 19] (fun r j d wr => ∃ i : Nat, i ≤ k ∧ j = .int .i64 i ∧ d = .int .i64 (divN i m) ∧ wr.ownsRow wi.heap.size 3 1 r i (valsN (digN i m)) ∧ Below wi.heap.size wi wr) (fun _ j _ _ => k - (intOf j).toNat)
              case atStart => exact ⟨0, Nat.zero_le _, rfl, rfl, World.ownsRow_nil _ _ _ _, Below.refl _ _⟩
              case round =>
                obtain ⟨i, hi, rfl, rfl, hown, hbi⟩ := hrel
                have hz := hbi.size
                replace p1 := (HST.out.mv hbi).pl.c1
                clear p0 p2
                have hdv := divN_le i m
                have HSN := Lib.hid (digN_snoc i m)
                have HDL := Lib.hid (digN_len i m)
                have hd5 : (divN i m).succ ≤ 30 := by omega
                have HDV := Lib.hid (show divN (i + 1) m = divN i m / 5 from rfl)
                by_cases hik : i < k
                · have hown2 : wr.ownsRow wi.heap.size 3 1 u17 (digN i m).length (valsN (digN i m)) := by rw [HDL.out]; exact hown
                  obtain ⟨d5, hd5e⟩ : ∃ d5, d5 = divN i m % 5 := ⟨_, rfl⟩
                  obtain ⟨dq, hdqe⟩ : ∃ dq, dq = divN i m / 5 := ⟨_, rfl⟩
                  have hm5 : ((divN i m : Nat) : Int) % 5 = (d5 : Int) := by omega
                  have hq5 : ((divN i m : Nat) : Int) / 5 = (dq : Int) := by omega
                  rw [← hd5e] at HSN
                  rw [← hdqe] at HDV
                  clear hown hd5e hdqe
                  generalize divN i m = dv at *
                  go_wp2_with (at_builtin; refine app_nats_at rfl (.tmp 76) (.tmp 79) rfl (base := wi.heap.size) (S := digN i m) (T := [d5]) (by rfl) (hown2.alloc _) rfl ((lit1_nats wr d5).nats.news rfl) (by rw [HDL.out]; simp; omega) (by simp; omega) ?_; intro v9 w9 hown9 hg9 hb9 hv9)
                  have hl9 : (digN i m ++ [d5]).length = i + 1 := by rw [List.length_append, HDL.out]; rfl
                  rw [hl9, ← HSN.out] at hown9
                  have HOW := Lib.hid (And.intro hown9 (hbi.trans (((below_alloc wr _).mono hz).trans hb9)))
                  clear hown9 hg9 hb9 hv9 hl9 hown2
                  go_wp2_with fail
                  go_roundw
                  case rel => first | exact ⟨i + 1, by omega, by go_num, by rw [HDV.out], HOW.out.1, HOW.out.2⟩ | ((repeat apply Exists.intro); refine ⟨?_, rfl⟩; exact ⟨i + 1, by omega, by go_num, by rw [HDV.out], HOW.out.1, HOW.out.2⟩)
                  case measure => simp [intOf]; omega
                · obtain rfl : k = i := by omega
                  obtain ⟨RA, rc, rfl, hRN, hRok, -⟩ := own_sl hown (digN_len k m).symm
                  have HRN := Lib.hid hRN
                  have HRok := Lib.hid hRok
                  have HSR := Lib.hid (HST.out.mv hbi)
                  have HV25 := Lib.hid (show vwN k (SL A) m < 25 from vwN_lt hk3)
                  have p0 := HSR.out.pl.c0
                  have p2 := HSR.out.pl.c2
                  clear hown hRN hRok HSN HDV hd5 hdv HST
                  go_wp2_with fail
                  refine (deal_made (p := 5) (n := n) (h := q) (sec := [sA]) (ran := digN k m) HPN.out ((HSR.out.mv (below_alloc wr _)).bases HB.out) (lit1_nats wr sA).nats (HRN.out.below (below_alloc wr _)) HRok.out (by simp) (by simpa using hsA5) (digN_lt k m) (by rw [HDL.out]; have := HKN.out; simp; omega) (by rw [HDL.out]; omega) rfl rfl).mono ?_
                  rintro e w5 ⟨NA, nc, rfl, hN, hb5⟩
                  have hb5' : Below wr.heap.size wr w5 := below_trans (below_alloc wr _) hb5
                  have HN := Lib.hid hN
                  have HS5 := Lib.hid (HSR.out.mv hb5')
                  have hcap := hN.cap
                  rw [deal_len] at hcap
                  replace p0 := HS5.out.pl.c0
                  replace p1 := HS5.out.pl.c1
                  replace p2 := HS5.out.pl.c2
                  have k1 : (0 : Int) ≤ (k : Int) := by omega
                  have k2 : (k : Int) ≤ (nc : Int) := by have := HKN.out; omega
                  clear hN hb5 hb5' HSR HRN HRok HDL hcap hbi hz
                  go_wp2_with fail
                  go_loopw [22, 104] (fun v j wr => ∃ i : Nat, i ≤ k ∧ j = .int .i64 i ∧ v = .int .i64 (viewN (sA :: digN k m) i : Nat) ∧ Below w5.heap.size w5 wr) (fun _ j _ => k - (intOf j).toNat)
                  case atStart => exact ⟨0, Nat.zero_le _, rfl, rfl, Below.refl _ _⟩
                  case round =>
                    obtain ⟨i, hi, rfl, rfl, hbv⟩ := hrel
                    have hv25 : viewN (sA :: digN k m) i < 25 := Nat.lt_of_lt_of_le (viewN_lt _ _) (powN_bd (by omega)).2
                    by_cases hik : i < k
                    · obtain ⟨b1, o1, B1, c1, rfl, hb1, -, x0, x1, hX, -⟩ := (HN.out.below hbv).nat (k := i) (by rw [deal_len]; have := HKN.out; omega)
                      rw [(cnt_row (k := k) HKN.out (show i < q by have := HKN.out; omega)).1] at x0
                      rw [(cnt_row (k := k) HKN.out (show i < q by have := HKN.out; omega)).2] at x1 hX
                      obtain ⟨b2, o2, hB1, hb2, y0⟩ := hX 0 (by simp)
                      subst hB1
                      have hev : evN 5 (sA :: digN k m) (i + 1) < 5 := evN_lt (by omega) _ _
                      have HVS := Lib.hid (show viewN (sA :: digN k m) (i + 1) = 5 * viewN (sA :: digN k m) i + evN 5 (sA :: digN k m) (i + 1) from rfl)
                      have y1 : wr.cell? ⟨b2, o2, none⟩ = some (.int .i64 (evN 5 (sA :: digN k m) (i + 1) : Nat)) := y0
                      generalize viewN (sA :: digN k m) i = vi at *
                      generalize evN 5 (sA :: digN k m) (i + 1) = ei at *
                      have HMD := Lib.hid (show modI (ei : Int) 5 = (ei : Int) from by rw [modI_ge _ _ (by omega)]; omega)
                      have i1 : (0 : Int) ≤ (i : Int) := by omega
                      have i2 : (i : Int) < (k : Int) := by omega
                      clear hX y0 p0 p1 p2
                      go_wp2_with fail
                      refine (mod_any (ei : Int) 5 _ (by omega)).mono ?_
                      rintro e w6 ⟨rfl, rfl⟩
                      rw [HMD.out]
                      go_wp2_with fail
                      go_roundw
                      case rel => first | exact ⟨i + 1, by omega, by go_num, by rw [HVS.out]; push_cast; rfl, bl_alloc _ hbv⟩ | ((repeat apply Exists.intro); refine ⟨?_, rfl⟩; exact ⟨i + 1, by omega, by go_num, by rw [HVS.out]; push_cast; rfl, bl_alloc _ hbv⟩)
                      case measure => simp [intOf]; omega
                    · obtain rfl : k = i := by omega
                      have HVW := Lib.hid (show viewN (sA :: digN k m) k = vwN k (SL A) m from by rw [← HSA.out]; rfl)
                      have HS6 := Lib.hid (HS5.out.mv hbv)
                      have c0 := HS6.out.tab.cell A (viewN (sA :: digN k m) k) hA2 (by omega)
                      have f0 := HS6.out.tab.free (A * 625 + viewN (sA :: digN k m) k)
                      have hg6 := HS6.out.tab.lt
                      rw [stF_at] at c0
                      have hcl := cntN_le k (SL A) m (viewN (sA :: digN k m) k)
                      have HSET := Lib.hid (HS6.out.set_ hA2 (by omega) HVW.out)
                      generalize cntN k (SL A) m (viewN (sA :: digN k m) k) = cn at *
                      generalize viewN (sA :: digN k m) k = vi at *
                      have i3 : (0 : Int) ≤ (vi : Int) := by omega
                      have i4 : (vi : Int) < 625 := by omega
                      clear p0 p1 p2 HN HS5 HS6 HVW
                      go_wp2_with fail
                      go_region_law (fail)
                      all_goals
                        go_wp2_with fail
                        go_roundw
                        case rel => first | exact ⟨m + 1, by omega, by go_num, HSET.out⟩ | exact ⟨m + 1, by omega, by go_num, HSET.out.mv (below_drewT _)⟩ | ((repeat apply Exists.intro); refine ⟨?_, rfl⟩; exact ⟨m + 1, by omega, by go_num, HSET.out.mv (below_drewT _)⟩) | ((repeat apply Exists.intro); refine ⟨?_, rfl⟩; exact ⟨m + 1, by omega, by go_num, HSET.out⟩)
                        case measure => simp [intOf]; omega
            · obtain rfl : t = m := by omega
              clear p0 p1 p2
              go_wp2_with fail
              go_roundw
              case rel => first | exact ⟨A + 1, by omega, by go_num, HST.out.congr (stF_row k SL t A)⟩ | ((repeat apply Exists.intro); refine ⟨?_, rfl⟩; exact ⟨A + 1, by omega, by go_num, HST.out.congr (stF_row k SL t A)⟩)
              case measure => simp [intOf]; omega
        · obtain rfl : A = 2 := by omega
          go_wp2_with fail
          go_loop [132] (fun i => ∃ v : Nat, v ≤ t ∧ i = .int .i64 v) (fun i => t - (intOf i).toNat)
          case atStart => exact ⟨0, Nat.zero_le _, rfl⟩
          case round =>
            obtain ⟨v, hv, rfl⟩ := hrel
            by_cases hvt : v < t
            · have c0 := HST.out.tab.cell 0 v (by omega) (by omega)
              have c1 := HST.out.tab.cell 1 v (by omega) (by omega)
              have hvp : v < powN k := by rw [← HT.out]; exact hvt
              have e0 : stF k SL t 2 0 0 v = 1 := by rw [HT.out]; exact stF_all hk3 (by omega) HSL.out.2.2 hvp
              have e1 : stF k SL t 2 0 1 v = 1 := by rw [HT.out]; exact stF_all hk3 (by omega) HSL.out.2.2 hvp
              rw [e0] at c0
              rw [e1] at c1
              rw [Nat.zero_mul, Nat.zero_add] at c0
              rw [Nat.one_mul] at c1
              have i3 : (0 : Int) ≤ (v : Int) := by omega
              have i4 : (v : Int) < 625 := by omega
              clear e0 e1 hvp
              go_wp2_with fail
              go_round
              case rel => exact ⟨v + 1, by omega, by go_num⟩
              case measure => simp [intOf]; omega
            · have HE := Lib.hid HST.out
              go_wp2_with fail
              refine ret_below (awake_any _ (HST.out.bases HB.out)) ?_
              intro w7 hb7
              go_wp2_with fail
              go_ret
              exact RetB.bool rfl (HST.out.mv hb7).bel
end Go.Proofs.YtkjpnhhkebbmdaaDoor
namespace Go.Proofs.YtkjpnhhkebbmdaaDoor
open Go.RowKit

theorem cell_block_lt {w : World} {a : Addr} {v : Value} (h : w.cell? a = some v) : a.block < w.heap.size := by
  rcases Nat.lt_or_ge a.block w.heap.size with hlt | hge
  · exact hlt
  · unfold World.cell? at h; simp [Array.getElem?_eq_none hge] at h
theorem open_row {W : World} {x : Addr} {len cap : Nat} {zs : List Int} (hl : len ≤ cap) (hm : cap ≤ maxLen) (hz : zs.length = cap) (hcell : ∀ i, i < zs.length → W.cell? (x.add i) = some (.int .i64 (zs.getD i 0)))
    (hb : ∀ n ∈ zs, -9223372036854775808 ≤ n ∧ n ≤ 9223372036854775807) :
    ∃ ys : List Int, ys.length = len ∧ ys.length ≤ maxLen ∧ IntsAt W (some x) ys ∧ ∀ n ∈ ys, -9223372036854775808 ≤ n ∧ n ≤ 9223372036854775807 := by
  refine ⟨zs.take len, by simp; omega, by simp; omega, fun k hk => ?_, fun n hn => hb n (List.mem_of_mem_take hn)⟩
  have hk' : k < len := by simpa using Nat.lt_of_lt_of_le hk (List.length_take_le _ _)
  have h0 := hcell 0 (by omega)
  have hk0 := hcell k (by omega)
  obtain ⟨b, off, spot⟩ := x
  have hs : spot = none := by simpa [Addr.add] using World.cell?_spot h0
  subst hs
  have hlt := cell_block_lt hk0
  refine ⟨b, off, rfl, ?_, ?_⟩
  · unfold Addr.add at hlt; split at hlt <;> exact hlt
  · have e : (⟨b, off, none⟩ : Addr).add k = ⟨b, off + k, none⟩ := by
      unfold Addr.add; split
      · rename_i h; subst h; rfl
      · rfl
    rw [← e, hk0, nth_eq hk]
    simp [List.getD_eq_getElem?_getD, show k < zs.length by omega]
end Go.Proofs.YtkjpnhhkebbmdaaDoor
