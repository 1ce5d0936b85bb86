/-
  Published numbers: contents and noise made by dice; the sanity check.
  Published numbers: the sanity check.
  StatisticPrivate: the plain law; what stands while two blocks are written.
  StatisticPrivate: the walk.
  A slice of numbers that came in reads as a list.
  Conditions: those that each theorem names.
-/
import Derived.Test.YtmnkgfimdlhhiaaM4
import Derived.Conc.EntryLaws
import Derived.Laws.AppendOwnNone
set_option linter.unusedVariables false
set_option linter.unusedSimpArgs false
namespace Go.Proofs.Ytmnkgfimdlhhiaa
open Go.RowKit

theorem grown_lowE {w0 w w' : World} {D : Nat} (h : w0.grownBy w (some D)) (hb : Below w0.heap.size w w') : w0.grownBy w' (some D) :=
  ⟨hb.os.trans h.os, hb.tape.trans h.tape, hb.output.trans h.output, Nat.le_trans h.size hb.size, fun k hk hne => (hb.block k hk).trans (h.block k hk hne)⟩
/-- Contents made by dice. -/
def ConP (D : Nat) (most : Nat) (w : World) (e : Ending) (w' : World) : Prop :=
  ∃ (v : Value) (L : List Spd) (R' : List Int), e = .returned v ∧ ElOwn elC 65 w' w.heap.size v L ∧ Depts L 4 ∧ L.length ≤ most ∧ DiceAt w' D R' ∧ w.grownBy w' (some D)
theorem Depts.nil (n : Nat) : Depts [] n := fun x hx => (by cases hx)
theorem Depts.snoc {L : List Spd} {n : Nat} {x : Spd} (h : Depts L n) (hx : 0 ≤ x.2 ∧ x.2 < (n : Int)) : Depts (L ++ [x]) n := fun y hy => by
  rcases List.mem_append.1 hy with h1 | h1
  · exact h y h1
  · have : y = x := by simpa using h1
    subst this; exact hx
set_option maxRecDepth 100000 in
set_option maxHeartbeats 2000000 in
theorem contents_any (D : Nat) (R : List Int) (most : Nat) (w : World) (h : DiceAt w D R) (hm : most ≤ 1000) :
    Calls Try.prog 25 #[.pointer (some ⟨D, 0, none⟩), .int .i64 (most : Int)] w (ConP D most w) := by
  have hDl := h.lt
  have HD := Lib.hid h
  clear h
  have hm2 : (most : Int) + 1 ≤ 4611686018427387904 := by omega
  go_enter Try.func25, Try.ntmps25
  go_wp2_with fail
  refine (next_any D R ((most : Int) + 1) _ HD.out hm2).mono ?_
  rintro e w1 ⟨rfl, hD1, hg1⟩
  obtain ⟨m1, m2⟩ := nextV_range R ((most : Int) + 1) (by omega)
  generalize nextV R ((most : Int) + 1) = m at *
  obtain ⟨m, rfl⟩ := Int.eq_ofNat_of_zero_le m1
  have hmm : m ≤ most := by omega
  have HD1 := Lib.hid hD1
  have HG1 := Lib.hid hg1
  clear hD1 hg1 HD m1 m2 hm2
  go_wp2_with fail
  go_loopw [6, 5] (fun n l wr => ∃ (m' : Nat) (L : List Spd) (R' : List Int), n = .int .i64 m' ∧ ElOwn elC 65 wr w.heap.size l L ∧ Depts L 4 ∧ L.length + m' ≤ most ∧ DiceAt wr D R' ∧ w.grownBy wr (some D)) (fun n _ _ => (intOf n).toNat)
  case atStart => exact ⟨m, [], _, rfl, ElOwn.nil _ _ _ _, Depts.nil 4, (by simp; omega), HD1.out, HG1.out⟩
  case round =>
    obtain ⟨n, L, R', rfl, hown, hdep, hlen, hD, hg⟩ := hrel
    obtain ⟨U, uc, rfl, -, -, -, -, -⟩ := hown.at_
    have HOW := Lib.hid hown
    have HDE := Lib.hid hdep
    have HDD := Lib.hid hD
    have HG := Lib.hid hg
    clear hown hdep hD hg
    rcases n with _ | n
    · go_wp2_with fail
      go_ret
      exact ⟨_, L, R', rfl, HOW.out, HDE.out, by omega, HDD.out, HG.out⟩
    · have hn1 : (0 : Int) < ((n + 1 : Nat) : Int) := by omega
      go_wp2_with fail
      refine (next_any D R' 4 _ HDD.out (by omega)).mono ?_
      rintro e w2 ⟨rfl, hD2, hg2⟩
      obtain ⟨d1, d2⟩ := nextV_range R' 4 (by omega)
      generalize nextV R' 4 = d at *
      have HOW2 := Lib.hid (HOW.out.grown hg2 hDl)
      have HD2 := Lib.hid hD2
      have HG2 := Lib.hid (grown_trans HG.out hg2)
      have hs2 := hg2.size
      have hs0 := HG2.out.size
      have hL : L.length ≤ 1000 := by omega
      clear hD2 hg2 HOW HDD HG hn1
      go_wp2_with (at_builtin; refine app_el elC Try.underlying48 info_con rfl rfl (.tmp 15) (.tmp 22) rfl (base := w.heap.size) (S := L) ((L.length : Int), d) rfl rfl HOW2.out rfl (by omega) (by decide) hs0 ?_; intro v3 w3 hown3 hg3 hb3; clear HOW2)
      go_roundw
      case rel =>
        exact ⟨n, L ++ [((L.length : Int), d)], _, by go_num, hown3, HDE.out.snoc ⟨d1, d2⟩, by simp; omega, HD2.out.keep (fun x hx => hb3.block x (by omega)), grown_lowE HG2.out hb3⟩
      case measure => simp [intOf]

def NoiseP (D : Nat) (w : World) (e : Ending) (w' : World) : Prop := ∃ (T A B : Int) (R : List Int), e = .returned (nz T A B) ∧ Good T A B ∧ DiceAt w' D R ∧ w.grownBy w' (some D)
theorem pick4 {k : Nat} (h : k < 4) : 1 ≤ nth [3, 1, 6, 24] k ∧ nth [3, 1, 6, 24] k ≤ 24 := by
  have : k = 0 ∨ k = 1 ∨ k = 2 ∨ k = 3 := by omega
  rcases this with rfl | rfl | rfl | rfl <;> decide
set_option maxHeartbeats 400000 in
theorem pnoise_any (D : Nat) (R : List Int) (w : World) (h : DiceAt w D R) :
    Calls Try.prog 29 #[.pointer (some ⟨D, 0, none⟩)] w (NoiseP D w) := by
  have hDlt := h.lt
  go_enter Try.func29, Try.ntmps29
  go_wp2_with fail
  refine (next_any D R 3 _ (h.alloc _) (by omega)).mono ?_
  rintro e w1 ⟨rfl, hD1, hg1⟩
  obtain ⟨x1, x2⟩ := nextV_range R 3 (by omega)
  generalize nextV R 3 = x at *
  go_wp2_with fail
  refine (of_any D R.tail _ [3, 1, 6, 24] 4 _ (hD1.alloc _) (lit_ints w1 [3, 1, 6, 24]) (fun b off e => ?_) (by simp) (by simp)).mono ?_
  · have := hD1.lt
    injection e with e; injection e with e1; omega
  rintro e w2 ⟨kk, hkk, rfl, hD2, hg2⟩
  obtain ⟨t1, t2⟩ := pick4 (k := kk) hkk
  generalize nth [3, 1, 6, 24] kk = T at *
  go_wp2_with fail
  refine (next_any D R.tail.tail _ _ hD2 (by omega)).mono ?_
  rintro e w3 ⟨rfl, hD3, hg3⟩
  obtain ⟨z1, z2⟩ := nextV_range R.tail.tail (2 + x - 1) (by omega)
  generalize nextV R.tail.tail (2 + x - 1) = z at *
  have hg13 : w.grownBy w3 (some D) := grown_trans (grown_trans (grown_trans (grown_of_below (below_alloc w _)) hg1) (grown_of_below (below_alloc w1 _))) (grown_trans hg2 hg3)
  have hk : w3.heap[w.heap.size]? = some (.cells #[.int .i64 0, .int .i64 0, .int .i64 0] 47 (0, 0)) := by
    have s1 : w.heap.size < w1.heap.size := Nat.lt_of_lt_of_le (by simp) hg1.size
    have s2 : w1.heap.size < w2.heap.size := Nat.lt_of_lt_of_le (by simp) hg2.size
    have hne : some w.heap.size ≠ some D := fun e => by injection e with e; omega
    rw [hg3.block _ (by omega) hne, hg2.block _ (by simp; omega) hne, Below.heap_alloc _ _ _ s1, hg1.block _ (by simp) hne]
    exact heap_alloc_new w _
  have k0 := cell_of_row w3 w.heap.size 0 _ _ (0, 0) hk
  have k1 := cell_of_row w3 w.heap.size 1 _ _ (0, 0) hk
  have k2 := cell_of_row w3 w.heap.size 2 _ _ (0, 0) hk
  have f0 : w3.frozen? ⟨w.heap.size, 0, none⟩ = false := by simp [World.frozen?, hk]
  have f1 : w3.frozen? ⟨w.heap.size, 1, none⟩ = false := by simp [World.frozen?, hk]
  have f2 : w3.frozen? ⟨w.heap.size, 2, none⟩ = false := by simp [World.frozen?, hk]
  simp at k0 k1 k2
  have HH := Lib.hid (And.intro hD3 hg13)
  clear hD3 hg13 hk hg1 hg2 hg3 hD1 hD2 h
  go_wp2_with fail
  have HF : Hid (NoiseP D w (.returned (nz T (1 + z) (2 + x))) (((w3.setCell ⟨w.heap.size, 0, none⟩ (.int .i64 T)).setCell ⟨w.heap.size, 1, none⟩ (.int .i64 (1 + z))).setCell ⟨w.heap.size, 2, none⟩ (.int .i64 (2 + x)))) :=
    ⟨T, 1 + z, 2 + x, _, rfl, by unfold Good; omega, ((HH.out.1.setCell _ _ hDlt).setCell _ _ hDlt).setCell _ _ hDlt, grown_set (grown_set (grown_set HH.out.2 _ _ (Nat.le_refl _)) _ _ (Nat.le_refl _)) _ _ (Nat.le_refl _)⟩
  exact bodyPost_ret (v := nz T (1 + z) (2 + x)) (by simp [results, Try.results29, go_sem, k0, k1, k2]) rfl HF.out


def OneP (D : Nat) (R : List Int) (w : World) (e : Ending) (w' : World) : Prop := ∃ q : Bool, e = .returned (.bool q) ∧ DiceAt w' D R.tail ∧ w.grownBy w' (some D)
set_option maxHeartbeats 400000 in
theorem one_any (D : Nat) (R : List Int) (n : Int) (w : World) (h : DiceAt w D R) (hn : 1 ≤ n ∧ n ≤ 1000) :
    Calls Try.prog 35 #[.pointer (some ⟨D, 0, none⟩), .int .i64 n] w (OneP D R w) := by
  obtain ⟨n1, n2⟩ := hn
  go_enter Try.func35, Try.ntmps35
  go_wp2_with fail
  refine (next_any D R n _ h (by omega)).mono ?_
  rintro e w1 ⟨rfl, hD1, hg⟩
  have HH := Lib.hid (And.intro hD1 hg)
  clear hD1 hg h
  go_wp2_with fail
  go_ret
  exact ⟨_, rfl, HH.out⟩
end Go.Proofs.Ytmnkgfimdlhhiaa
namespace Go.Proofs.Ytmnkgfimdlhhiaa
open Go.RowKit

theorem ElAt.lits {α : Type} (E : El α) (w : World) (L : List α) (ty : TypeId) : ElAt E (w.alloc (.cells (E.flat L).toArray ty)) (some ⟨w.heap.size, 0, none⟩) L := fun k x hk => by
  refine ⟨_, _, rfl, by simp, fun j hj => ?_⟩
  have h := heap_alloc_new w (.cells (E.flat L).toArray ty)
  rw [Nat.zero_add, cell_of_row _ _ (k * E.n + j) _ _ (0, 0) h]
  have := E.flat_at L k x hk j hj
  simpa using this
theorem one_rowE {t c : Int} (k : Nat) (hk : k < [((t, c) : Spd)].length) : k = 0 := by simpa using hk
theorem aw39G : Good 4 1 2 := by unfold Good; omega
theorem aw39B0 : BudOK 5 1 [] := ⟨⟨by decide, by decide, by decide, by decide, by decide⟩, fun k hk => absurd hk (by simp), fun k hk => absurd hk (by simp)⟩
theorem aw39B1 : BudOK 5 1 [(2, 1)] := ⟨⟨by decide, by decide, by decide, by decide, by decide⟩,
  fun k hk => by rw [one_rowE k hk]; exact ⟨by decide, by decide, fun h => absurd h (by omega), by decide, by decide⟩, fun k hk => by rw [one_rowE k hk]; decide +kernel⟩
theorem aw39O : PbOK 4 1 2 [3] [0] := by decide +kernel
theorem aw39E1 : pbE 4 1 2 5 1 [] 2 [3] [0] = 0 := by
  rw [pbE_spend aw39G aw39O]
  exact (spE_good aw39B0 ⟨by decide, by decide, fun h => absurd h (by simp)⟩ (by decide) (by decide +kernel) (by decide)).symm
theorem aw39E2 : pbE 4 1 2 5 1 [(2, 1)] 3 [3] [0] = 56 := by
  rw [pbE_spend aw39G aw39O]
  exact (spE_left aw39B1 ⟨by decide, by decide, fun _ => by decide⟩ (by decide) (by decide +kernel)).symm
theorem aw39L : lnK 4 1 2 [(0, 3), (0, 3)] [3] [0] 1 = [(3, 0)] := by decide +kernel
theorem aw39W : wgL 4 1 2 [(0, 3), (0, 3)] [(3, 0)] = [8] ∧ wgE 4 1 2 [(3, 0)] = 0 := by decide +kernel
theorem aw39C : cntD 3 [(0, 3), (0, 3)] = 2 := by decide +kernel
theorem pub_aw1 (C X Y : Option Addr) (c cx cy : Nat) (W : World) (hL : ElAt elC W C [(0, 3), (0, 3)]) (hX : IntsAt W X [3]) (hY : IntsAt W Y [0]) :
    Calls Try.prog 26 #[nz 4 1 2, .agg #[.int .i64 5, .int .i64 1, .slice none 0 0], .int .i64 2, .slice C 2 c, .slice X 1 cx, .slice Y 1 cy] W (PubP 5 1 2 [(3, 0)] [(2, 1)] 0 W) := by
  have h := publish_any 4 1 2 5 1 none [] 0 2 C [(0, 3), (0, 3)] c X [3] cx Y [0] cy W (SpAt.nil _ _) (fun a e => by cases e) (fun _ => ⟨rfl, rfl⟩) (by simp) hL (by simp) hX (by simp) hY (by simp)
  unfold PubQ pbT pbL pbS at h
  rw [aw39E1, if_pos rfl, if_pos rfl, if_pos rfl] at h
  rw [show lnK 4 1 2 [(0, 3), (0, 3)] [3] [0] ([3] : List Int).length = [(3, 0)] from aw39L] at h
  exact h
theorem pub_aw2 (Q C X Y : Option Addr) (cq c cx cy : Nat) (W : World) (hS : SpAt W Q [(2, 1)]) (hQ : ∀ a, Q = some a → a.spot = none ∨ ([(2, 1)] : List Spd).length = 0) (hN : Q = none → ([(2, 1)] : List Spd).length = 0 ∧ cq = 0) (hL : ElAt elC W C [(0, 3), (0, 3)]) (hX : IntsAt W X [3]) (hY : IntsAt W Y [0]) :
    Calls Try.prog 26 #[nz 4 1 2, .agg #[.int .i64 5, .int .i64 1, .slice Q 1 cq], .int .i64 3, .slice C 2 c, .slice X 1 cx, .slice Y 1 cy] W (PubP 5 1 0 [] [(2, 1)] 56 W) := by
  have h := publish_any 4 1 2 5 1 Q [(2, 1)] cq 3 C [(0, 3), (0, 3)] c X [3] cx Y [0] cy W hS hQ hN (by simp) hL (by simp) hX (by simp) hY (by simp)
  unfold PubQ pbT pbL pbS at h
  rw [aw39E2, if_neg (by decide), if_neg (by decide), if_neg (by decide)] at h
  exact h
theorem weigh_aw (C U : Option Addr) (c cu : Nat) (W : World) (hL : ElAt elC W C [(0, 3), (0, 3)]) (hU : ElAt elL W U [(3, 0)]) :
    Calls Try.prog 27 #[nz 4 1 2, .slice C 2 c, .agg #[.int .i64 2, .slice U 1 cu]] W (fun e w' => ∃ b off c', e = .returned (.tuple #[.slice (some ⟨b, off, none⟩) 1 c', .int .i64 0]) ∧ b < w'.heap.size ∧ w'.cell? ⟨b, off, none⟩ = some (.int .i64 8) ∧ Below W.heap.size W w') := by
  refine (weigh_any 4 1 2 C [(0, 3), (0, 3)] c 2 U [(3, 0)] cu W hL (by simp) hU (by simp)).mono ?_
  rintro e w' ⟨u, rfl, hown, hb⟩
  rw [aw39W.2]
  rw [aw39W.1] at hown
  obtain ⟨A', c', rfl, hI⟩ := IntsAt.of_own hown rfl
  obtain ⟨b, off, rfl, hlt, hc⟩ := hI 0 (by simp)
  exact ⟨b, off, c', rfl, hlt, hc, hb⟩
theorem PubP.open_ {P Am tm : Int} {Ls S : List Spd} {E : Int} {w : World} {e : Ending} {w' : World} (h : PubP P Am tm Ls S E w e w') :
    ∃ U uc V vc, e = .returned (.tuple #[.agg #[.int .i64 tm, .slice U Ls.length uc], .agg #[.int .i64 P, .int .i64 Am, .slice V S.length vc], .int .i64 E]) ∧ ElOwn elL 74 w' w.heap.size (.slice U Ls.length uc) Ls ∧ SpOwn w' w.heap.size (.slice V S.length vc) S ∧ ElAt elL w' U Ls ∧ SpAt w' V S ∧ Below w.heap.size w w' := by
  obtain ⟨u, v, rfl, h1, h2, h3⟩ := h
  obtain ⟨U, uc, rfl, a1, -⟩ := h1.at_
  obtain ⟨V, vc, rfl, a2, -⟩ := h2.at_
  exact ⟨U, uc, V, vc, rfl, h1, h2, a1, a2, h3⟩
theorem gen_calls {P : Program} {f : FuncId} {args : Array Value} {W : World} {R : Ending → World → Prop} (h : ∀ W1, W1 = W → Calls P f args W1 R) : Calls P f args W R := h W rfl
theorem lit_at {w : World} {i : Nat} (x : Int) (h : i = w.heap.size) : IntsAt (w.alloc (.cells #[.int .i64 x] 3)) (some ⟨i, 0, none⟩) [x] := by subst h; exact lit_ints w [x]
set_option maxRecDepth 100000 in
set_option maxHeartbeats 4000000 in
theorem awake39 (w : World) : Calls Try.prog 24 #[] w (RetB (.bool true) w) := by
  go_enter Try.func24, Try.ntmps24
  go_wp2_with fail
  refine gen_calls fun W hW => ?_
  have hL : ElAt elC W (some ⟨w.heap.size, 0, none⟩) [(0, 3), (0, 3)] := by rw [hW]; exact (((ElAt.lits elC w [(0, 3), (0, 3)] 65).alloc _).alloc _).alloc _
  have hN : NzCell W (w.heap.size + 1) 4 1 2 := by rw [hW]; exact ((NzCell.new _ _ _ (by simp)).alloc _).alloc _
  have hX : IntsAt W (some ⟨w.heap.size + 1 + 1, 0, none⟩) [3] := by rw [hW]; exact (lit_at 3 (by simp)).below (below_alloc _ _)
  have hY : IntsAt W (some ⟨w.heap.size + 1 + 1 + 1, 0, none⟩) [0] := by rw [hW]; exact lit_at 0 (by simp)
  have hbW : Below w.heap.size w W := by rw [hW]; exact (((below_alloc _ _).alloc (by simp) _).alloc (by simp; omega) _).alloc (by simp; omega) _
  clear hW
  refine (pub_aw1 _ _ _ 2 1 1 _ hL hX hY).mono ?_
  intro e w1 hr
  obtain ⟨U, uc, V, vc, rfl, -, hv, hU, hV, hb1⟩ := hr.open_
  replace hN := hN.below hb1
  have HL := Lib.hid (hL.below hb1)
  have HU := Lib.hid hU
  have HV := Lib.hid hV
  have HQ := Lib.hid (And.intro hv.spotE hv.nilcapE)
  have hbw : Below w.heap.size w w1 := hbW.trans (hb1.mono hbW.size)
  have n0 := hN.c0
  have n1 := hN.c1
  have n2 := hN.c2
  have lN := hN.lt
  have l0 : w.heap.size < w1.heap.size := by omega
  have HN := Lib.hid hN
  clear hr hL hX hY hbW hU hV hv hb1 hN
  go_wp2_with fail
  refine gen_calls fun W hW => ?_
  have hX : IntsAt W (some ⟨w1.heap.size + 1 + 1, 0, none⟩) [3] := by rw [hW]; exact (lit_at 3 (by simp)).below (below_alloc _ _)
  have hY : IntsAt W (some ⟨w1.heap.size + 1 + 1 + 1, 0, none⟩) [0] := by rw [hW]; exact lit_at 0 (by simp)
  have hbW : Below w1.heap.size w1 W := by rw [hW]; exact (((below_alloc _ _).alloc (by simp) _).alloc (by simp; omega) _).alloc (by simp; omega) _
  have hT : TabCell W w1.heap.size 2 (.slice U 1 uc) := by rw [hW]; exact ((((TabCell.new _ _ rfl).below (below_alloc _ _)).below (below_alloc _ _)).below (below_alloc _ _))
  clear hW
  refine (pub_aw2 _ _ _ _ _ _ 1 1 _ (HV.out.below hbW) HQ.out.1 HQ.out.2 (HL.out.below hbW) hX hY).mono ?_
  intro e w2 hr
  obtain ⟨U2, uc2, V2, vc2, rfl, -, -, -, -, hb2⟩ := hr.open_
  have hb12 := hbW.trans (hb2.mono hbW.size)
  replace hT := hT.below hb2
  have hN := HN.out.below hb12
  have HL2 := Lib.hid (HL.out.below hb12)
  have HU2 := Lib.hid (HU.out.below hb12)
  have hbw2 : Below w.heap.size w w2 := hbw.trans (hb12.mono hbw.size)
  clear n0 n1 n2 lN hr hX hY hbW HN HL HU HV hb2 hb12
  have n0 := hN.c0
  have n1 := hN.c1
  have n2 := hN.c2
  have lN := hN.lt
  have l02 : w.heap.size < w2.heap.size := by omega
  have t0 := hT.c0
  have t1 := hT.c1
  have lT := hT.lt
  have HT := Lib.hid hT
  clear hN hT
  go_wp2_with fail
  refine gen_calls fun W hW => ?_
  have hbW : Below w2.heap.size w2 W := by rw [hW]; exact (below_alloc _ _).alloc (by simp) _
  clear hW
  refine (weigh_aw _ _ 2 uc _ (HL2.out.below hbW) (HU2.out.below hbW)).mono ?_
  rintro e w3 ⟨b, off, c', rfl, hlt, hc, hb3⟩
  have hb23 := hbW.trans (hb3.mono hbW.size)
  have HT3 := Lib.hid (HT.out.below hb23)
  have HL3 := Lib.hid (HL2.out.below hb23)
  have HU3 := Lib.hid (HU2.out.below hb23)
  have hbw3 : Below w.heap.size w w3 := hbw2.trans (hb23.mono hbw2.size)
  clear n0 n1 n2 lN t0 t1 lT HT HL2 HU2 hbW hb3 hb23 hbw hbw2
  have t0 := HT3.out.c0
  have t1 := HT3.out.c1
  have lT := HT3.out.lt
  have l2 := lin_cells HU3.out (k := 0) (by simp)
  obtain ⟨bu, ou, rfl, lbu, u0, u1⟩ := l2
  rw [Nat.zero_mul, Nat.add_zero] at u0 u1
  go_wp2_with fail
  have hcn := count_any _ [(0, 3), (0, 3)] 2 3 w3 HL3.out (by simp)
  rw [aw39C] at hcn
  refine ret_below hcn fun w4 hb4 => ?_
  clear hcn
  have HT4 := Lib.hid (HT3.out.below hb4)
  have HU4 := Lib.hid (HU3.out.below hb4)
  have hbw4 : Below w.heap.size w w4 := hbw3.trans (hb4.mono hbw3.size)
  have u0' := (hb4.cell (p := ⟨bu, ou, none⟩) lbu).trans u0
  have u1' := (hb4.cell (p := ⟨bu, ou + 1, none⟩) lbu).trans u1
  have hc' := (hb4.cell (p := ⟨b, off, none⟩) hlt).trans hc
  have s4 := hb4.size
  clear t0 t1 lT u0 u1 hc HT3 HU3 HL3
  have t0 := HT4.out.c0
  have t1 := HT4.out.c1
  have lT := HT4.out.lt
  have hqq : cS [((3, 0) : Spd)] 0 = 0 := rfl
  rw [hqq] at u1'
  go_wp2_with fail
  refine ret_below (sameT_any _ _ [(3, 0)] [(3, 0)] _ _ 2 2 _ HU4.out HU4.out (by simp) (by simp)) fun w5 hb5 => ?_
  go_wp2_with fail
  go_ret
  exact RetB.bool rfl (hbw4.trans (hb5.mono hbw4.size))
end Go.Proofs.Ytmnkgfimdlhhiaa
namespace Go.Proofs.Ytmnkgfimdlhhiaa
open Go.RowKit

/-! ### With one content more -/
theorem cntD_more (L : List Spd) (e d : Int) : cntD d (L ++ [(0, e)]) = cntD d L + oneD e d := by
  rw [cntD_append]; simp [cntD]
theorem clC_more {T : Int} (L : List Spd) (e d : Int) : clC T (L ++ [(0, e)]) d = clC T L d ∨ (e = d ∧ clC T (L ++ [(0, e)]) d = clC T L d + 1 ∧ clC T L d < T) := by
  unfold clC clampW
  rw [cntD_more]
  have := cntD_range d L
  by_cases h : e = d
  · rw [oneD_yes h]; omega
  · rw [oneD_no h, Int.add_zero]; exact .inl rfl
theorem weightW_rangeE {T A B a z : Int} (h : Good T A B) (ha : 0 ≤ a ∧ a ≤ T) (hz : 0 ≤ z ∧ z ≤ T) : 1 ≤ weightW T A B a z ∧ weightW T A B a z ≤ 1125899906842624 := by
  have hw := (WOK.of h ha).pos z.toNat
  obtain ⟨g1, g2, g3, g4, g5⟩ := h
  obtain ⟨z1, z2⟩ := hz
  rw [weightsL_len, nth_weightsL _ _ _ _ _ _ (by omega), show ((z.toNat : Nat) : Int) = z by omega] at hw
  exact hw (by omega)
theorem factor_loE {T A B k z : Int} (h : Good T A B) (hk : 0 ≤ k ∧ k < T) (hz : 0 ≤ z ∧ z ≤ T) (hzk : z ≤ k) : weightW T A B k z * A = weightW T A B (k + 1) z * B := by
  obtain ⟨t, a, b, rfl, rfl, rfl, h1, h2, h3, h4, h5⟩ := h.nats
  obtain ⟨k, rfl⟩ := Int.eq_ofNat_of_zero_le hk.1
  obtain ⟨z, rfl⟩ := Int.eq_ofNat_of_zero_le hz.1
  have hf := (okAt_factor (okAt_true t a b k h1 h2 h3 h4 h5 (by omega)) (by omega) (show z ≤ t by omega)).1 (by omega)
  rw [weightW_nat t a b k z h2 h4 h5 (by omega) (by omega), show (k : Int) + 1 = ((k + 1 : Nat) : Int) from rfl, weightW_nat t a b (k + 1) z h2 h4 h5 (by omega) (by omega), ← Int.natCast_mul, ← Int.natCast_mul, hf]
theorem factor_hiE {T A B k z : Int} (h : Good T A B) (hk : 0 ≤ k ∧ k < T) (hz : 0 ≤ z ∧ z ≤ T) (hzk : k < z) : weightW T A B k z * B = weightW T A B (k + 1) z * A := by
  obtain ⟨t, a, b, rfl, rfl, rfl, h1, h2, h3, h4, h5⟩ := h.nats
  obtain ⟨k, rfl⟩ := Int.eq_ofNat_of_zero_le hk.1
  obtain ⟨z, rfl⟩ := Int.eq_ofNat_of_zero_le hz.1
  have hf := (okAt_factor (okAt_true t a b k h1 h2 h3 h4 h5 (by omega)) (by omega) (show z ≤ t by omega)).2 (by omega)
  rw [weightW_nat t a b k z h2 h4 h5 (by omega) (by omega), show (k : Int) + 1 = ((k + 1 : Nat) : Int) from rfl, weightW_nat t a b (k + 1) z h2 h4 h5 (by omega) (by omega), ← Int.natCast_mul, ← Int.natCast_mul, hf]
theorem mul_lt4 {w A B : Int} (hw : 1 ≤ w) (h : A < B) : w * A < w * B := Int.mul_lt_mul_of_pos_left h (by omega)
/-- What the two weights of a line are to one another. -/
def PrV (A B w v st : Int) : Prop := (w = v ∧ st = 0) ∨ (w ≠ v ∧ st = 1 ∧ w * A = v * B) ∨ (w ≠ v ∧ st = 1 ∧ w * A ≠ v * B ∧ w * B = v * A)
theorem prV {T A B : Int} (hG : Good T A B) (L : List Spd) (e d z : Int) (hz : 0 ≤ z ∧ z ≤ T) :
    PrV A B (weightW T A B (clC T L d) z) (weightW T A B (clC T (L ++ [(0, e)]) d) z) (fc1 T L (L ++ [(0, e)]) d) := by
  have hT : 0 ≤ T := by have := hG.1; omega
  obtain ⟨c1, c2⟩ := clC_range L d hT
  unfold fc1
  rcases clC_more (T := T) L e d with h | ⟨_, h, hlt⟩
  · rw [h]; exact .inl ⟨rfl, by omega⟩
  · rw [h]
    generalize clC T L d = c at *
    have hw := weightW_rangeE hG (a := c) ⟨c1, c2⟩ hz
    have hv := weightW_rangeE hG (a := c + 1) ⟨by omega, by omega⟩ hz
    have hAB : A < B := hG.2.2.2.1
    have l1 := mul_lt4 hw.1 hAB
    have l2 := mul_lt4 hv.1 hAB
    by_cases hzc : z ≤ c
    · have hf := factor_loE hG ⟨c1, hlt⟩ hz hzc
      exact .inr (.inl ⟨fun e => by rw [e] at hf l1; omega, by omega, hf⟩)
    · have hf := factor_hiE hG ⟨c1, hlt⟩ hz (by omega)
      exact .inr (.inr ⟨fun e => by rw [e] at hf l1; omega, by omega, fun e => by omega, hf⟩)
theorem fc1_one {T : Int} (_ : 0 ≤ T) (L : List Spd) (e d : Int) : 0 ≤ fc1 T L (L ++ [(0, e)]) d ∧ fc1 T L (L ++ [(0, e)]) d ≤ oneD e d := by
  unfold fc1
  rcases clC_more (T := T) L e d with h | ⟨he, h, hlt⟩
  · rw [h]; have := oneD_range e d; omega
  · rw [h, oneD_yes he]; omega
theorem fcK_one {T : Int} (hT : 0 ≤ T) (L : List Spd) (e : Int) : 0 ≤ fcK T L (L ++ [(0, e)]) [0, 1, 2, 3] 4 ∧ fcK T L (L ++ [(0, e)]) [0, 1, 2, 3] 4 ≤ 1 := by
  have h0 := fc1_one hT L e 0
  have h1 := fc1_one hT L e 1
  have h2 := fc1_one hT L e 2
  have h3 := fc1_one hT L e 3
  have hs : oneD e 0 + oneD e 1 + oneD e 2 + oneD e 3 ≤ 1 := by unfold oneD; repeat (split <;> try omega)
  have hk : fcK T L (L ++ [(0, e)]) [0, 1, 2, 3] 4 = 0 + fc1 T L (L ++ [(0, e)]) 0 + fc1 T L (L ++ [(0, e)]) 1 + fc1 T L (L ++ [(0, e)]) 2 + fc1 T L (L ++ [(0, e)]) 3 := rfl
  omega

/-! ### What stands while some blocks are written -/
structure Kep (X : Nat → Prop) (w w' : World) : Prop where
  os : w'.os = w.os
  tape : w'.tape = w.tape
  output : w'.output = w.output
  size : w.heap.size ≤ w'.heap.size
  block : ∀ b, b < w.heap.size → ¬ X b → w'.heap[b]? = w.heap[b]?
theorem Kep.refl (X : Nat → Prop) (w : World) : Kep X w w := ⟨rfl, rfl, rfl, Nat.le_refl _, fun _ _ _ => rfl⟩
theorem Kep.below {X : Nat → Prop} {w w1 w2 : World} (h : Kep X w w1) (hb : Below w1.heap.size w1 w2) : Kep X w w2 :=
  ⟨hb.os.trans h.os, hb.tape.trans h.tape, hb.output.trans h.output, Nat.le_trans h.size hb.size, fun b hl hx => (hb.block b (Nat.lt_of_lt_of_le hl h.size)).trans (h.block b hl hx)⟩
theorem Kep.belowB {X : Nat → Prop} {w w1 w2 : World} {B : Nat} (h : Kep X w w1) (hb : Below B w1 w2) (hB : ∀ b, b < w.heap.size → ¬ X b → b < B) : Kep X w w2 :=
  ⟨hb.os.trans h.os, hb.tape.trans h.tape, hb.output.trans h.output, Nat.le_trans h.size hb.size, fun b hl hx => (hb.block b (hB b hl hx)).trans (h.block b hl hx)⟩
theorem Kep.grown {X : Nat → Prop} {w w1 w2 : World} {D : Nat} (h : Kep X w w1) (hg : w1.grownBy w2 (some D)) (hD : X D) : Kep X w w2 :=
  ⟨hg.os.trans h.os, hg.tape.trans h.tape, hg.output.trans h.output, Nat.le_trans h.size hg.size, fun b hl hx => (hg.block b (Nat.lt_of_lt_of_le hl h.size) (fun e => by injection e with e; subst e; exact hx hD)).trans (h.block b hl hx)⟩
theorem Kep.set {X : Nat → Prop} {w w1 : World} (h : Kep X w w1) (p : Addr) (u : Value) (hp : X p.block ∨ w.heap.size ≤ p.block) : Kep X w (w1.setCell p u) :=
  ⟨h.os, h.tape, h.output, by simpa [World.setCell] using h.size, fun b hl hx => (Below.heap_setCell w1 p u b (fun e => by subst e; rcases hp with hp | hp; exact hx hp; omega)).trans (h.block b hl hx)⟩
theorem Kep.drew {X : Nat → Prop} {w w1 : World} (h : Kep X w w1) : Kep X w w1.drew := ⟨h.os, h.tape, h.output, h.size, h.block⟩
theorem Kep.trans {X : Nat → Prop} {w w1 w2 : World} (h : Kep X w w1) (g : Kep X w1 w2) : Kep X w w2 :=
  ⟨g.os.trans h.os, g.tape.trans h.tape, g.output.trans h.output, Nat.le_trans h.size g.size, fun b hl hx => (g.block b (Nat.lt_of_lt_of_le hl h.size) hx).trans (h.block b hl hx)⟩
theorem Kep.toBelow {X : Nat → Prop} {w0 w w1 : World} (h : Kep X w w1) (hb : Below w0.heap.size w0 w) (hX : ∀ b, X b → w0.heap.size ≤ b) : Below w0.heap.size w0 w1 :=
  ⟨h.os.trans hb.os, h.tape.trans hb.tape, h.output.trans hb.output, Nat.le_trans hb.size h.size, fun b hl => (h.block b (Nat.lt_of_lt_of_le hl hb.size) (fun hx => by have := hX b hx; omega)).trans (hb.block b hl)⟩
theorem ElAt.kep {α : Type} {E : El α} {X : Nat → Prop} {w w' : World} {A : Option Addr} {L : List α} (h : ElAt E w A L) (hk : Kep X w w') (hX : ∀ a, A = some a → ¬ X a.block) : ElAt E w' A L := fun k x hkx => by
  obtain ⟨b, off, hA, hlt, hc⟩ := h k x hkx
  exact ⟨b, off, hA, Nat.lt_of_lt_of_le hlt hk.size, fun j hj => (World.cell?_of_block (w := w) (hk.block b hlt (hX _ hA))).trans (hc j hj)⟩
theorem IntsAt.kep {X : Nat → Prop} {w w' : World} {A : Option Addr} {L : List Int} (h : IntsAt w A L) (hk : Kep X w w') (hX : ∀ a, A = some a → ¬ X a.block) : IntsAt w' A L := fun k hkx => by
  obtain ⟨b, off, hA, hlt, hc⟩ := h k hkx
  exact ⟨b, off, hA, Nat.lt_of_lt_of_le hlt hk.size, (World.cell?_of_block (w := w) (hk.block b hlt (hX _ hA))).trans hc⟩
theorem SpAt.kep {X : Nat → Prop} {w w' : World} {A : Option Addr} {S : List Spd} (h : SpAt w A S) (hk : Kep X w w') (hX : ∀ a, A = some a → ¬ X a.block) : SpAt w' A S := fun k hkx => by
  obtain ⟨b, off, hA, hlt, hc, hd⟩ := h k hkx
  exact ⟨b, off, hA, Nat.lt_of_lt_of_le hlt hk.size, (World.cell?_of_block (w := w) (hk.block b hlt (hX _ hA))).trans hc, (World.cell?_of_block (w := w) (hk.block b hlt (hX _ hA))).trans hd⟩
theorem NzCell.kep {X : Nat → Prop} {w w' : World} {x : Nat} {T A B : Int} (h : NzCell w x T A B) (hk : Kep X w w') (hX : ¬ X x) : NzCell w' x T A B := (hk.block x h.lt hX).trans h

/-! ### A call of Next in a region that draws its order -/
theorem step_callE {ops : Array Oper} {o : Oper} {a : Act} {K : Act → World → Prop} {Q : Exit → Act → World → Prop} {E : Prop} (W : World) (hgd : o.guard = none) (f : FuncId) (aa : Array Operand) (ts : Array TypeId)
    (ho : o.op = .call { callee := .value (.func f), args := aa, argTypes := ts }) (hen : ∀ args w, (callFunc f args).run Try.prog w = .ok (.enter f args) w) (vs : Array Value) (hv : aa.map a.eval = vs)
    {R : Ending → World → Prop} (hc : Calls Try.prog f vs W R) (hK : ∀ e w', R e w' → ∃ v, e = .returned v ∧ K (a.put o.dst v) w') :
    if Region.wanted o (yielded ops a.tmps) = true then Oper.wp Try.prog o a W K Q else E := by
  have hw : Region.wanted o (yielded ops a.tmps) = true := by simp [Region.wanted, hgd]
  rw [if_pos hw]
  have hcc : (execOp a.eval o).run Try.prog W = .ok (.enter f vs) W := by
    rw [Go.Conc.execOp_call_func ho, hen, hv]
  unfold Oper.wp
  rw [hcc]
  refine Calls.mono hc ?_
  intro e w' hr
  obtain ⟨v, rfl, hk⟩ := hK e w' hr
  exact hk
theorem enter_nextE (args : Array Value) (w : World) : (callFunc 18 args).run Try.prog w = .ok (.enter 18 args) w :=
  Go.MuLone.run_callFunc_enter Try.func18 (by kernel_rfl) rfl args w
theorem step_nextE {ops : Array Oper} {o : Oper} {a : Act} {K : Act → World → Prop} {Q : Exit → Act → World → Prop} {E : Prop} {D : Nat} {R : List Int} (W : World) (hgd : o.guard = none) (s x : Operand) (n : Int)
    (ho : o.op = .call { callee := .value (.func 18), args := #[s, x], argTypes := #[29, 3] })
    (hs : a.eval s = .pointer (some ⟨D, 0, none⟩)) (hx : a.eval x = .int .i64 n) (hd : DiceAt W D R) (h1 : 1 ≤ n) (hn : n ≤ 4611686018427387904)
    (hK : ∀ (k : Nat) w', (k : Int) < n → DiceAt w' D R.tail → W.grownBy w' (some D) → K (a.put o.dst (.int .i64 (k : Int))) w') :
    if Region.wanted o (yielded ops a.tmps) = true then Oper.wp Try.prog o a W K Q else E := by
  refine step_callE W hgd _ _ _ ho enter_nextE #[.pointer (some ⟨D, 0, none⟩), .int .i64 n] (by rw [← hs, ← hx]; simp) (next_any D R n W hd hn) ?_
  rintro e w' ⟨rfl, hD, hg⟩
  obtain ⟨x1, x2⟩ := nextV_range R n h1
  obtain ⟨k, hk⟩ := Int.eq_ofNat_of_zero_le x1
  refine ⟨_, rfl, ?_⟩
  rw [hk]; exact hK k w' (by omega) hD hg
theorem grown_undrewE {w w' : World} {r : Option Nat} (h : w.drew.grownBy w' r) : w.grownBy w' r := ⟨h.os, h.tape, h.output, h.size, h.block⟩
theorem ElAt.keptA {α : Type} {E : El α} {w w' : World} {B : Nat} {A : Option Addr} {L : List α} (h : ElAt E w A L) (hb : Below B w w') (hB : ∀ a, A = some a → a.block < B) : ElAt E w' A L := fun k x hk => by
  obtain ⟨b, off, hA, hlt, hc⟩ := h k x hk
  exact ⟨b, off, hA, Nat.lt_of_lt_of_le hlt hb.size, fun j hj => (hb.cell (p := ⟨b, off + k * E.n + j, none⟩) (show b < B from hB ⟨b, off, none⟩ hA)).trans (hc j hj)⟩
/-- append of a slice of elements, nil or not, onto one of the call's own. -/
theorem app_elsN {α : Type} (E : El α) {t ty : TypeId} {z : Value} {bytes : Nat} (ht : Try.prog.underlying t = some (.slice ty)) (hinfo : (Try.prog.info? ty).map (fun i => (i.zero, i.size, i.bytes)) = some (some z, E.n, bytes)) (hzs : z.cells.size = E.n)
    {ops : Array Oper} {rest : List Oper} {o : Oper} {a : Act} {Q : Exit → Act → World → Prop} (hgd : o.guard = none) (s x : Operand)
    (ho : o.op = .call { callee := .builtin .append, args := #[s, x], argTypes := #[t, t] })
    {base : Nat} {w : World} {v : Value} {S : List α} (T : List α) (ad : Option Addr) (c : Nat) (hs : a.eval s = v) (hown : ElOwn E ty w base v S)
    (hx : a.eval x = .slice ad T.length c) (hT : ElAt E w ad T) (hN : ad = none → T.length = 0 ∧ c = 0) (hsp : ∀ a, ad = some a → a.spot = none) (hl : S.length + T.length ≤ 1000000) (hb : bytes ≤ 1000) (hbase : base ≤ w.heap.size)
    (h : ∀ v' w', ElOwn E ty w' base v' (S ++ T) → Below base w w' → wpList Try.prog ops Q rest (a.put o.dst v') w') :
    wpList Try.prog ops Q (o :: rest) a w := by
  obtain ⟨i0, hi, hz0, hz1, hz2⟩ := info_parts hinfo
  rcases ad with _ | ad
  · obtain ⟨h1, rfl⟩ := hN rfl
    have : T = [] := List.eq_nil_of_length_eq_zero h1
    subst this
    refine wpList_append_own_none hgd s x t ho base ty i0 E.n ht hi v S.length (E.flat S) hs hown hx ?_
    exact h v w (by rw [List.append_nil]; exact hown) (Below.refl _ _)
  · exact app_els E ht hinfo hzs hgd s x ho hs hown hx (hT.newsA (.inl (hsp ad rfl))) hl hb hbase fun v' w' h1 _ h3 => h v' w' h1 h3
end Go.Proofs.Ytmnkgfimdlhhiaa
namespace Go.Proofs.Ytmnkgfimdlhhiaa
open Go.RowKit

theorem mul_small {x y : Int} (hx : 1 ≤ x ∧ x ≤ 1125899906842624) (hy : 1 ≤ y ∧ y ≤ 4) : IntKind.i64.wrap (x * y) = x * y := by
  have h1 : x * y ≤ 1125899906842624 * 4 := Int.mul_le_mul hx.2 hy.2 (by omega) (by omega)
  have h2 : 0 ≤ x * y := Int.mul_nonneg (by omega) (by omega)
  exact IntWalk.i64_in _ (by omega)
/-- The weights of a table's lines lie in memory. -/
theorem weigh_good {T A B : Int} (hG : Good T A B) (C : Option Addr) (L : List Spd) (c : Nat) (tm : Int) (U : Option Addr) (Ls : List Spd) (cu : Nat) (w : World) (hL : ElAt elC w C L) (hl : L.length ≤ 100000) (hU : ElAt elL w U Ls) (hu : Ls.length = 4) (hz : ZOK T Ls) :
    Calls Try.prog 27 #[nz T A B, .slice C L.length c, .agg #[.int .i64 tm, .slice U 4 cu]] w (fun e w' => ∃ A' c', e = .returned (.tuple #[.slice A' 4 c', .int .i64 0]) ∧ IntsAt w' A' (Ls.map (wg1 T A B L)) ∧ Below w.heap.size w w') := by
  have h := weigh_any T A B C L c tm U Ls cu w hL hl hU (by omega)
  rw [hu] at h
  refine h.mono ?_
  rintro e w' ⟨u, rfl, hown, hb⟩
  have e1 : wgE T A B Ls = 0 := by unfold wgE; rw [if_pos hG, if_pos hz]
  have e2 : wgL T A B L Ls = Ls.map (wg1 T A B L) := by unfold wgL; rw [if_pos ⟨hG, hz⟩]
  rw [e1]
  unfold IntOwn at hown
  rw [e2] at hown
  obtain ⟨A', c', rfl, hI⟩ := IntsAt.of_own hown rfl
  exact ⟨A', c', by rw [List.length_map, hu], hI, hb⟩
theorem nth_map_wg {T A B : Int} {L Ls : List Spd} {k : Nat} (h : k < Ls.length) : nth (Ls.map (wg1 T A B L)) k = weightW T A B (clC T L (tS Ls k)) (cS Ls k) := by
  rw [nth_eq (by simpa using h)]
  simp [wg1, tS, cS, List.getD_eq_getElem?_getD, h]
theorem rows4 : RowsOK [0, 1, 2, 3] := by decide
theorem nth4 {k : Nat} (h : k < 4) : nth [0, 1, 2, 3] k = (k : Int) := by
  have : k = 0 ∨ k = 1 ∨ k = 2 ∨ k = 3 := by omega
  rcases this with rfl | rfl | rfl | rfl <;> rfl
theorem NzCell.frozen {w : World} {x : Nat} {T A B : Int} (h : NzCell w x T A B) (j : Nat) : w.frozen? ⟨x, j, none⟩ = false := by
  unfold NzCell at h; simp [World.frozen?, h]
theorem NzCell.set1 {w : World} {x : Nat} {T A B : Int} (h : NzCell w x T A B) (A' : Int) : NzCell (w.setCell ⟨x, 1, none⟩ (.int .i64 A')) x T A' B := by
  unfold NzCell at h ⊢; simp [World.setCell, Array.getElem?_modify, h]
theorem NzCell.grown {w w' : World} {x D : Nat} {T A B : Int} (h : NzCell w x T A B) (hg : w.grownBy w' (some D)) (hx : x ≠ D) : NzCell w' x T A B := (hg.block x h.lt (fun e => by injection e with e; exact hx e)).trans h
theorem TabCell.grown {w w' : World} {x D : Nat} {tm : Int} {v : Value} (h : TabCell w x tm v) (hg : w.grownBy w' (some D)) (hx : x ≠ D) : TabCell w' x tm v := (hg.block x h.lt (fun e => by injection e with e; exact hx e)).trans h
theorem grown_belowE {w0 w w' : World} {D : Nat} (h : Below w0.heap.size w0 w) (hg : w.grownBy w' (some D)) (hD : w0.heap.size ≤ D) : Below w0.heap.size w0 w' :=
  ⟨hg.os.trans h.os, hg.tape.trans h.tape, hg.output.trans h.output, Nat.le_trans h.size hg.size, fun k hk => (hg.block k (Nat.lt_of_lt_of_le hk h.size) (fun e => by injection e with e; omega)).trans (h.block k hk)⟩
theorem lin_snoc {Ls : List Spd} {k : Nat} {z : Int} (hl : Ls.length = k) (h : ∀ j, j < k → tS Ls j = (j : Int)) : ∀ j, j < k + 1 → tS (Ls ++ [((k : Int), z)]) j = (j : Int) := fun j hj => by
  by_cases e : j < k
  · rw [← h j e]; unfold tS; simp [List.getD_eq_getElem?_getD, List.getElem?_append_left (show j < Ls.length by omega)]
  · have : j = k := by omega
    subst this; unfold tS; subst hl; simp [List.getD_eq_getElem?_getD]
theorem zok_snoc {T : Int} {Ls : List Spd} {x z : Int} (h : ZOK T Ls) (hz : 0 ≤ z ∧ z ≤ T) : ZOK T (Ls ++ [(x, z)]) := fun j hj => by
  by_cases e : j < Ls.length
  · have := h j e
    unfold cS at this ⊢; rwa [show (Ls ++ [(x, z)]).getD j (0, 0) = Ls.getD j (0, 0) by simp [List.getD_eq_getElem?_getD, List.getElem?_append_left e]]
  · have : j = Ls.length := by simp at hj; omega
    subst this; unfold cS; simp [List.getD_eq_getElem?_getD]; exact hz
theorem four_lits (w : World) : IntsAt (w.alloc (.cells #[.int .i64 0, .int .i64 1, .int .i64 2, .int .i64 3] 3)) (some ⟨w.heap.size, 0, none⟩) [0, 1, 2, 3] := lit_ints w [0, 1, 2, 3]

set_option maxRecDepth 100000 in
set_option maxHeartbeats 8000000 in
theorem statisticPrivate_walk (A0 : Option Addr) (L0 : List Int) (c0 : Nat) (w : World) (hl0 : L0.length ≤ maxLen) (hI0 : IntsAt w A0 L0) (_ : ∀ n ∈ L0, -9223372036854775808 ≤ n ∧ n ≤ 9223372036854775807) :
    Calls Try.prog 11 #[.slice A0 L0.length c0] w (RetB (.bool true) w) := by
  have hL := light_any A0 L0.length c0 w
  by_cases hlight : (L0.length : Int) ≤ 500
  case neg =>
    rw [decide_eq_false hlight] at hL
    have HLt := Lib.hid hL
    clear hL hlight
    go_enter Try.func11, Try.ntmps11
    go_wp2_with fail
    refine ret_pure HLt.out ?_
    go_wp2_with fail
    refine ret_below (awake39 _) fun w1 hb1 => ?_
    go_wp2_with fail
    go_ret
    exact RetB.bool rfl hb1
  case pos =>
    rw [decide_eq_true hlight] at hL
    have HLt := Lib.hid hL
    clear hL hlight
    go_enter Try.func11, Try.ntmps11
    go_wp2_with fail
    refine ret_pure HLt.out ?_
    clear HLt
    go_wp2_with fail
    refine (roll_any A0 L0 c0 _ hl0 hI0).mono ?_
    rintro e w1 ⟨D, rfl, hDs, hD, hb1⟩
    clear hI0 hl0
    go_wp2_with fail
    refine (next_any D L0 6 _ hD (by omega)).mono ?_
    rintro e w2 ⟨rfl, hD2, hg2⟩
    obtain ⟨x1, x2⟩ := nextV_range L0 6 (by omega)
    generalize nextV L0 6 = x at *
    generalize L0.tail = R2 at *
    go_wp2_with fail
    refine (next_any D R2 3 _ hD2 (by omega)).mono ?_
    rintro e w3 ⟨rfl, hD3, hg3⟩
    obtain ⟨y1, y2⟩ := nextV_range R2 3 (by omega)
    generalize nextV R2 3 = y at *
    generalize R2.tail = R3 at *
    have hb3 := grown_belowE (grown_belowE hb1 hg2 hDs) hg3 hDs
    have hD3l := hD3.lt
    clear hD hD2 hg2 hg3 hb1
    go_wp2_with fail
    obtain ⟨T, hT⟩ : ∃ T, T = 1 + x := ⟨_, rfl⟩
    obtain ⟨B, hB⟩ : ∃ B, B = 2 + y := ⟨_, rfl⟩
    have hN3 : NzCell (w3.alloc (.cells #[.int .i64 (1 + x), .int .i64 0, .int .i64 (2 + y)] 47)) w3.heap.size (1 + x) 0 (2 + y) := NzCell.new _ _ _ rfl
    refine (next_any D R3 (2 + y - 1) _ (hD3.alloc _) (by omega)).mono ?_
    rintro e w4 ⟨rfl, hD4, hg4⟩
    obtain ⟨z1, z2⟩ := nextV_range R3 (2 + y - 1) (by omega)
    generalize nextV R3 (2 + y - 1) = z at *
    generalize R3.tail = R4 at *
    have hN4 := hN3.grown hg4 (by omega)
    have hb4 := grown_belowE (hb3.alloc hb3.size (.cells #[.int .i64 (1 + x), .int .i64 0, .int .i64 (2 + y)] 47)) hg4 hDs
    obtain ⟨nb, hnb⟩ : ∃ nb, nb = w3.heap.size := ⟨_, rfl⟩
    have hnb1 : D < nb := by omega
    rw [← hnb] at hN4 ⊢
    have c0' := hN4.c0
    have c1' := hN4.c1
    have c2' := hN4.c2
    have f1' := hN4.frozen 1
    have lN4 := hN4.lt
    have HN4 := Lib.hid hN4
    clear hN3 hN4 hg4 hD3 hD3l hnb hb3
    go_wp2_with fail
    refine gen_calls fun W hW => ?_
    have hNW : NzCell W nb T (1 + z) B := by rw [hW, hT, hB]; exact HN4.out.set1 _
    have hDW : DiceAt W D R4 := by rw [hW]; exact hD4.setCell _ _ hnb1
    have hbW : Below w.heap.size w W := by rw [hW]; exact below_set hb4 _ _ (by have := hb4.size; simp; omega)
    have hG : Good T (1 + z) B := by unfold Good; omega
    obtain ⟨A, hA⟩ : ∃ A, A = 1 + z := ⟨_, rfl⟩
    rw [← hA] at hNW hG
    rw [← hT, ← hB, ← hA]
    clear hW HN4 c0' c1' c2' f1' lN4 hD4 hb4 hT hB hA x1 x2 y1 y2 z1 z2
    have hD1 := hDW.lt
    have hn1 := hNW.lt
    refine (contents_any D R4 9 W hDW (by omega)).mono ?_
    rintro e w5 ⟨v5, L, R5, rfl, hown5, hdep, hlen, hD5, hg5⟩
    obtain ⟨U, uc, rfl, hU5, hUn, hUb, -, -⟩ := hown5.at_
    have hN5 := hNW.grown hg5 (by omega)
    have hb5 := grown_belowE hbW hg5 hDs
    have hs5 := hg5.size
    have HG := Lib.hid hG
    have HUN := Lib.hid hUn
    have HUB := Lib.hid hUb
    have HU5 := Lib.hid hU5
    have HN5 := Lib.hid hN5
    have HD5 := Lib.hid hD5
    obtain ⟨g1, g2, g3, g4, g5⟩ := hG
    clear hown5 hg5 hNW hbW hDW hdep hUn hUb hU5 hN5 hD5
    go_wp2_with (at_builtin; refine app_elsN elC Try.underlying48 info_con rfl rfl (.const (.slice none 0 0)) (.tmp 39) rfl (base := w5.heap.size) (S := []) (v := .slice none 0 0) L U uc rfl (ElOwn.nil _ _ _ _) rfl HU5.out HUN.out (fun a e => (HUB.out a e).2.1) (by simp; omega) (by decide) (Nat.le_refl _) ?_; intro v6 w6 hown6 hb6; rw [List.nil_append] at hown6; have HO6 := Lib.hid hown6; clear hown6)
    have HD6 := Lib.hid (HD5.out.below hb6)
    refine (next_any D R5 5 _ HD6.out (by omega)).mono ?_
    rintro e w7 ⟨rfl, hD7, hg7⟩
    generalize nextV R5 5 = ee at *
    generalize R5.tail = R7 at *
    have hD5l := HD5.out.lt
    have HO7 := Lib.hid (HO6.out.grown hg7 (by omega))
    have HU7 := Lib.hid ((HU5.out.below hb6).grown hg7 (fun b off e => by have := (HUB.out _ e).2.2.1; dsimp only at this; omega))
    have HN7 := Lib.hid ((HN5.out.below hb6).grown hg7 (by omega))
    have hb7 := grown_belowE (hb5.trans (hb6.mono hb5.size)) hg7 hDs
    have HD7 := Lib.hid hD7
    have hs6 := hb6.size
    have hs7 := hg7.size
    obtain ⟨V6, vc6, rfl, -, -, -, -, -⟩ := HO6.out.at_
    clear hg7 hD7 HD6 HO6 hb6 HD5 HU5 HN5 hb5
    go_wp2_with (at_builtin; refine app_el elC Try.underlying48 info_con rfl rfl (.tmp 40) (.tmp 45) rfl (base := w5.heap.size) (S := L) (v := .slice V6 L.length vc6) ((0 : Int), ee) rfl rfl HO7.out rfl (by omega) (by decide) (by omega) ?_; intro v8 w8 hown8 hg8 hb8; obtain ⟨V, vc, e8, hV8, -, hVb, -, -⟩ := hown8.at_; rw [show (L ++ [((0 : Int), ee)]).length = L.length + 1 by simp] at e8; subst e8; have HV8 := Lib.hid hV8; have HVB := Lib.hid hVb; clear hown8 hg8 hV8 hVb HO7)
    refine gen_world fun w9 hw9 => ?_
    have HU8 := Lib.hid (HU7.out.keptA hb8 (fun a e => (HUB.out a e).2.2.2))
    have HN8 := Lib.hid (HN7.out.keptB hb8 (by omega))
    have hT9 : TabCell w9 w8.heap.size 0 (.slice none 0 0) := by rw [hw9]; exact TabCell.new _ _ rfl
    have HU9 := Lib.hid (show ElAt elC w9 U L by rw [hw9]; exact HU8.out.alloc _)
    have HV9 := Lib.hid (show ElAt elC w9 V (L ++ [((0 : Int), ee)]) by rw [hw9]; exact HV8.out.alloc _)
    have HN9 := Lib.hid (show NzCell w9 nb T A B by rw [hw9]; exact HN8.out.alloc _)
    have HD9 := Lib.hid (show DiceAt w9 D R7 by rw [hw9]; exact (HD7.out.keep (fun x hx => hb8.block x (by omega))).alloc _)
    have hb9 : Below w.heap.size w w9 := by rw [hw9]; exact (hb7.trans (hb8.mono (by omega))).alloc (by have := hb7.size; have := hb8.size; omega) _
    have htb : w8.heap.size < w9.heap.size := by rw [hw9]; simp
    have hs9 : w9.heap.size = w8.heap.size + 1 := by rw [hw9]; simp
    obtain ⟨tb, htb2⟩ : ∃ tb, tb = w8.heap.size := ⟨_, rfl⟩
    have hDtb : D < tb := by have := HD7.out.lt; have := hb8.size; omega
    have hntb : nb < tb := by have := HN8.out.lt; omega
    have HUX := Lib.hid (show ∀ a, U = some a → ¬ (a.block = D ∨ a.block = tb) from fun a e => by have := (HUB.out a e).2.2; have := hb8.size; omega)
    have HVX := Lib.hid (show ∀ a, V = some a → ¬ (a.block = D ∨ a.block = tb) from fun a e => by have := (HVB.out a e).2.2; omega)
    have hwtb : w.heap.size ≤ tb := by have := hb7.size; have := hb8.size; omega
    rw [← htb2] at hT9 htb hs9 ⊢
    clear hw9 HU8 HN8 HV8 HVB HUB HUN HU7 HN7 HD7 htb2 hb7 hb8
    have HT9 := Lib.hid hT9
    clear hT9
    go_wp2_with fail
    go_loopw [8] (fun i wr => ∃ (k : Nat) (u : Value) (Ls : List Spd) (R' : List Int), i = .int .i64 k ∧ k ≤ 4 ∧ TabCell wr tb 0 u ∧ ElOwn elL 74 wr (tb + 1) u Ls ∧ Ls.length = k ∧ (∀ j, j < k → tS Ls j = (j : Int)) ∧ ZOK T Ls ∧ DiceAt wr D R' ∧ Kep (fun b => b = D ∨ b = tb) w9 wr) (fun i _ => 4 - (intOf i).toNat)
    case atStart => exact ⟨0, _, [], R7, rfl, by omega, HT9.out, ElOwn.nil _ _ _ _, rfl, fun j hj => absurd hj (by omega), fun j hj => absurd hj (by simp), HD9.out, Kep.refl _ _⟩
    case round =>
      obtain ⟨k, u, Ls, R', rfl, hk, hT, hown, hln, hts, hzo, hDr, hkp⟩ := hrel
      have hN := HN9.out.kep hkp (by omega)
      have n0 := hN.c0
      have n1 := hN.c1
      have n2 := hN.c2
      have lN := hN.lt
      have t0 := hT.c0
      have t1 := hT.c1
      have f1 := hT.frozen 1
      have lT := hT.lt
      have hkps := hkp.size
      obtain ⟨Uu, uc2, eu, hUu, -, -, -, -⟩ := hown.at_
      rw [hln] at eu
      subst eu
      have HLN := Lib.hid hln
      have HTS := Lib.hid hts
      have HZO := Lib.hid hzo
      have HDR := Lib.hid hDr
      have HKP := Lib.hid hkp
      have HT := Lib.hid hT
      have HOW := Lib.hid hown
      have HNR := Lib.hid hN
      clear hln hts hzo hDr hkp hT hown hN
      by_cases hlt : (k : Int) < 4
      · have v1 : IntKind.i64.wrap (T + 1) = T + 1 := IntWalk.i64_in _ (by omega)
        go_wp2_with fail
        go_region_law (first
          | (refine step_nextE _ rfl (.tmp 54) (.tmp 57) (T + 1) rfl rfl rfl (by exact HDR.out) (by omega) (by omega) ?_; intro z w5' hz hD5 hg5; have hg5' : wr.grownBy w5' (some D) := (by first | exact hg5 | exact grown_undrewE hg5); have hT5 := HT.out.grown hg5' (by omega); have q1 := hT5.c1; have q2 := hT5.frozen 1; have q3 := hT5.lt; have hN5 := HNR.out.grown hg5' (by omega); have q4 := hN5.c0; have HOW5 := Lib.hid (HOW.out.grown hg5' (by omega)); have HT5 := Lib.hid hT5; have s5 := hg5'.size)
          | (refine step_app_el elL Try.underlying50 info_line rfl _ rfl (.tmp 52) (.tmp 60) rfl w5' (tb + 1) (.slice Uu k uc2) k Ls ((k : Int), (z : Int)) rfl (by simp [Act.eval]) (by simp [Act.eval]) ⟨rfl, rfl, rfl, rfl⟩ HLN.out.symm (by omega) (by decide) HOW5.out (by omega) ?_; intro g8 c8 w8' hown8 hb8; have hT8 := HT5.out.keptB hb8 (by omega); have p0 := hT8.c0; have p1 := hT8.c1; have p2 := hT8.frozen 1; have p3 := hT8.lt; have HT8 := Lib.hid hT8; have HOW8 := Lib.hid hown8))
        all_goals
          have HKF := Lib.hid ((((HKP.out.grown hg5' (.inl rfl)).belowB hb8 (fun b hl hx => by omega)).set ⟨tb, 1, none⟩ (.slice (some ⟨g8, 0, none⟩) (k + 1) c8) (.inl (.inr rfl))))
          have HDF := Lib.hid ((hD5.keep (fun x hx => hb8.block x (by omega))).setCell ⟨tb, 1, none⟩ (.slice (some ⟨g8, 0, none⟩) (k + 1) c8) (by simp; omega))
          clear hT8 hown8 hb8 hT5 hN5 hg5 hg5' hD5
          go_wp2_with fail
          go_roundw
          case rel => exact ⟨k + 1, _, Ls ++ [((k : Int), (z : Int))], _, by go_num, by omega, HT8.out.set1 _, HOW8.out.set_ _ _ (by simp), by simp [HLN.out], lin_snoc HLN.out HTS.out, zok_snoc HZO.out (by omega), HDF.out, HKF.out⟩
          case measure => simp [intOf]; omega
      · obtain rfl : k = 4 := by omega
        have hbr : Below w.heap.size w wr := HKP.out.toBelow hb9 (fun b hx => by omega)
        have HUR := Lib.hid (HU9.out.kep HKP.out HUX.out)
        have HVR := Lib.hid (HV9.out.kep HKP.out HVX.out)
        have HUU := Lib.hid hUu
        clear HU9 HV9 HN9 HD9 HT9 hUu HKP HOW HDR
        go_wp2_with fail
        refine (weigh_good HG.out U L uc 0 Uu Ls uc2 _ HUR.out (by omega) HUU.out HLN.out HZO.out).mono ?_
        rintro e wa ⟨Wa, wca, rfl, hWa, hba⟩
        have hNa := HNR.out.below hba
        have hTa := HT.out.below hba
        have HWa := Lib.hid hWa
        have HVa := Lib.hid (HVR.out.below hba)
        have HUa := Lib.hid (HUR.out.below hba)
        have HUUa := Lib.hid (HUU.out.below hba)
        have hbwa := hbr.trans (hba.mono hbr.size)
        clear n0 n1 n2 lN t0 t1 f1 lT HNR HT HUR HVR HUU hba hWa hbr
        have n0 := hNa.c0
        have n1 := hNa.c1
        have n2 := hNa.c2
        have lN := hNa.lt
        have t0 := hTa.c0
        have t1 := hTa.c1
        have lT := hTa.lt
        have HNa := Lib.hid hNa
        have HTa := Lib.hid hTa
        clear hNa hTa
        go_wp2_with fail
        have hwv := weigh_good HG.out V (L ++ [((0 : Int), ee)]) vc 0 Uu Ls uc2 wa HVa.out (by simp; omega) HUUa.out HLN.out HZO.out
        rw [show (L ++ [((0 : Int), ee)]).length = L.length + 1 by simp] at hwv
        refine hwv.mono ?_
        clear hwv
        rintro e wb ⟨Wb, wcb, rfl, hWb, hbb⟩
        have hNb := HNa.out.below hbb
        have HWa2 := Lib.hid (HWa.out.below hbb)
        have HWb := Lib.hid hWb
        have HVb := Lib.hid (HVa.out.below hbb)
        have HUb := Lib.hid (HUa.out.below hbb)
        have hbwb := hbwa.trans (hbb.mono hbwa.size)
        clear n0 n1 n2 lN t0 t1 lT HNa HTa HUa HVa HUUa hbb hWb hbwa HWa
        have n0 := hNb.c0
        have n1 := hNb.c1
        have n2 := hNb.c2
        have lN := hNb.lt
        have HNb := Lib.hid hNb
        clear hNb
        go_wp2_with fail
        refine gen_calls fun W hW => ?_
        have hbW : Below wb.heap.size wb W := by rw [hW]; exact below_alloc _ _
        have hX : IntsAt W (some ⟨wb.heap.size, 0, none⟩) [0, 1, 2, 3] := by rw [hW]; exact four_lits wb
        clear hW
        have hfc := factor_any T A B U V L (L ++ [((0 : Int), ee)]) uc vc (some ⟨wb.heap.size, 0, none⟩) [0, 1, 2, 3] 4 W (HUb.out.below hbW) (HVb.out.below hbW) (by omega) (by simp; omega) hX (by simp)
        rw [show (L ++ [((0 : Int), ee)]).length = L.length + 1 by simp] at hfc
        refine hfc.mono ?_
        clear hfc
        rintro e wc ⟨rfl, hbc⟩
        have e1 : fcE T A B [0, 1, 2, 3] = 0 := by unfold fcE; rw [if_pos HG.out, if_pos rows4]
        have e2 : fcV T A B L (L ++ [((0 : Int), ee)]) [0, 1, 2, 3] = fcK T L (L ++ [((0 : Int), ee)]) [0, 1, 2, 3] 4 := by unfold fcV; rw [if_pos ⟨HG.out, rows4⟩]; rfl
        rw [e1, e2]
        clear e1 e2
        obtain ⟨x1, x2⟩ := fcK_one (T := T) (by omega) L ee
        have hbWc := hbW.trans (hbc.mono hbW.size)
        have HNc := Lib.hid (HNb.out.below hbWc)
        have HWac := Lib.hid (HWa2.out.below hbWc)
        have HWbc := Lib.hid (HWb.out.below hbWc)
        have hbwc := hbwb.trans (hbWc.mono hbwb.size)
        clear n0 n1 n2 lN HNb HWa2 HWb hbW hbc hbWc hX hbwb HUb HVb
        have HF4 := Lib.hid (show fcK T L (L ++ [((0 : Int), ee)]) [0, 1, 2, 3] 4 = fcK T L (L ++ [((0 : Int), ee)]) [0, 1, 2, 3] 4 from rfl)
        have HFR := Lib.hid (fun k => fcK_range (T := T) (by omega) L (L ++ [((0 : Int), ee)]) [0, 1, 2, 3] k)
        obtain ⟨xx, hxx⟩ : ∃ xx, xx = fcK T L (L ++ [((0 : Int), ee)]) [0, 1, 2, 3] 4 := ⟨_, rfl⟩
        rw [← hxx] at x1 x2 ⊢
        have HXX := Lib.hid hxx
        clear hxx HF4
        go_wp2_with fail
        go_loopw [16, 15] (fun i c wr' => ∃ (k : Nat), k ≤ 4 ∧ i = .int .i64 k ∧ c = .int .i64 (fcK T L (L ++ [((0 : Int), ee)]) [0, 1, 2, 3] k) ∧ Below wc.heap.size wc wr') (fun i _ _ => 4 - (intOf i).toNat)
        case atStart => exact ⟨0, by omega, rfl, rfl, Below.refl _ _⟩
        case round =>
          obtain ⟨k, hk4, rfl, rfl, hbr⟩ := hrel
          have hNr := HNc.out.below hbr
          have n0 := hNr.c0
          have n1 := hNr.c1
          have n2 := hNr.c2
          have lN := hNr.lt
          obtain ⟨r1, r2⟩ := HFR.out k
          by_cases hlt4 : k < 4
          · have hlm : k < (Ls.map (wg1 T A B L)).length := by rw [List.length_map, HLN.out]; exact hlt4
            have hlm2 : k < (Ls.map (wg1 T A B (L ++ [((0 : Int), ee)]))).length := by rw [List.length_map, HLN.out]; exact hlt4
            have hkL : k < Ls.length := by rw [HLN.out]; exact hlt4
            obtain ⟨b1, o1, rfl, lb1, m1⟩ := (HWac.out.below hbr) k hlm
            obtain ⟨b2, o2, rfl, lb2, m2⟩ := (HWbc.out.below hbr) k hlm2
            rw [nth_map_wg hkL] at m1 m2
            have hzz := HZO.out k hkL
            have hpv := prV HG.out L ee (tS Ls k) (cS Ls k) hzz
            have hw1 := weightW_rangeE HG.out (clC_range L (tS Ls k) (show 0 ≤ T by omega)) hzz
            have hw2 := weightW_rangeE HG.out (clC_range (L ++ [((0 : Int), ee)]) (tS Ls k) (show 0 ≤ T by omega)) hzz
            have HFS := Lib.hid (show fcK T L (L ++ [((0 : Int), ee)]) [0, 1, 2, 3] (k + 1) = fcK T L (L ++ [((0 : Int), ee)]) [0, 1, 2, 3] k + fc1 T L (L ++ [((0 : Int), ee)]) (tS Ls k) by rw [HTS.out k hlt4]; show _ + fc1 T L _ (nth [0, 1, 2, 3] k) = _; rw [nth4 hlt4])
            generalize weightW T A B (clC T L (tS Ls k)) (cS Ls k) = wk at *
            generalize weightW T A B (clC T (L ++ [((0 : Int), ee)]) (tS Ls k)) (cS Ls k) = vk at *
            generalize fc1 T L (L ++ [((0 : Int), ee)]) (tS Ls k) = st at *
            generalize fcK T L (L ++ [((0 : Int), ee)]) [0, 1, 2, 3] k = fk at *
            have hk0 : (0 : Int) ≤ (k : Int) := by omega
            have hk5 : (k : Int) < 4 := by omega
            have p1 := mul_small (y := A) hw1 (by omega)
            have p2 := mul_small (y := B) hw1 (by omega)
            have p3 := mul_small (y := A) hw2 (by omega)
            have p4 := mul_small (y := B) hw2 (by omega)
            have HPR := Lib.hid hpv
            clear hpv hlm hlm2 hzz
            rcases HPR.out with ⟨e1, e2⟩ | ⟨e1, e2, e3⟩ | ⟨e1, e2, e3, e4⟩
            · obtain ⟨q1, q2, q3, q4⟩ := CmpF.yes e1
              have E2 := Lib.hid e2
              clear e1 e2 p1 p2 p3 p4
              go_wp2_with fail
              go_quiet (fail)
              go_wp2_with fail
              go_roundw
              case rel => exact ⟨k + 1, by omega, by go_num, by rw [HFS.out, E2.out, Int.add_zero], below_drewN hbr _⟩
              case measure => simp [intOf]; omega
            · obtain ⟨q1, q2, q3, q4⟩ := CmpF.no e1
              obtain ⟨q5, q6, q7, q8⟩ := CmpF.yes e3
              have E2 := Lib.hid e2
              clear e1 e2 e3
              go_wp2_with fail
              go_quiet (fail)
              go_wp2_with fail
              go_quiet (fail)
              go_wp2_with fail
              go_roundw
              case rel => exact ⟨k + 1, by omega, by go_num, by rw [HFS.out, E2.out], by first | exact below_drewN hbr _ | exact below_drewN (below_drewN hbr _) _⟩
              case measure => simp [intOf]; omega
            · obtain ⟨q1, q2, q3, q4⟩ := CmpF.no e1
              obtain ⟨q5, q6, q7, q8⟩ := CmpF.no e3
              obtain ⟨q9, q10, q11, q12⟩ := CmpF.yes e4
              have E2 := Lib.hid e2
              clear e1 e2 e3 e4
              go_wp2_with fail
              go_quiet (fail)
              go_wp2_with fail
              go_quiet (fail)
              go_wp2_with fail
              go_roundw
              case rel => exact ⟨k + 1, by omega, by go_num, by rw [HFS.out, E2.out], by first | exact below_drewN hbr _ | exact below_drewN (below_drewN hbr _) _⟩
              case measure => simp [intOf]; omega
          · obtain rfl : k = 4 := by omega
            rw [← HXX.out]
            have qx : (xx == xx) = true := by simp
            clear n0 n1 n2 lN hNr r1 r2
            go_wp2_with fail
            refine ret_below (awake39 _) fun wz hbz => ?_
            go_wp2_with fail
            go_ret
            exact RetB.bool rfl ((hbwc.trans (hbr.mono hbwc.size)).trans (hbz.mono (Nat.le_trans hbwc.size hbr.size)))
end Go.Proofs.Ytmnkgfimdlhhiaa
namespace Go.Proofs.Ytmnkgfimdlhhiaa
open Go.RowKit

theorem cell_block_lt {w : World} {a : Addr} {v : Value} (h : w.cell? a = some v) : a.block < w.heap.size := by
  rcases Nat.lt_or_ge a.block w.heap.size with hlt | hge
  · exact hlt
  · unfold World.cell? at h; simp [Array.getElem?_eq_none hge] at h
theorem open_row {W : World} {x : Addr} {len cap : Nat} {zs : List Int} (hl : len ≤ cap) (hm : cap ≤ maxLen) (hz : zs.length = cap) (hcell : ∀ i, i < zs.length → W.cell? (x.add i) = some (.int .i64 (zs.getD i 0)))
    (hb : ∀ n ∈ zs, -9223372036854775808 ≤ n ∧ n ≤ 9223372036854775807) :
    ∃ ys : List Int, ys.length = len ∧ ys.length ≤ maxLen ∧ IntsAt W (some x) ys ∧ ∀ n ∈ ys, -9223372036854775808 ≤ n ∧ n ≤ 9223372036854775807 := by
  refine ⟨zs.take len, by simp; omega, by simp; omega, fun k hk => ?_, fun n hn => hb n (List.mem_of_mem_take hn)⟩
  have hk' : k < len := by simpa using Nat.lt_of_lt_of_le hk (List.length_take_le _ _)
  have h0 := hcell 0 (by omega)
  have hk0 := hcell k (by omega)
  obtain ⟨b, off, spot⟩ := x
  have hs : spot = none := by simpa [Addr.add] using World.cell?_spot h0
  subst hs
  have hlt := cell_block_lt hk0
  refine ⟨b, off, rfl, ?_, ?_⟩
  · unfold Addr.add at hlt; split at hlt <;> exact hlt
  · have e : (⟨b, off, none⟩ : Addr).add k = ⟨b, off + k, none⟩ := by
      unfold Addr.add; split
      · rename_i h; subst h; rfl
      · rfl
    rw [← e, hk0, nth_eq hk]
    simp [List.getD_eq_getElem?_getD, show k < zs.length by omega]
end Go.Proofs.Ytmnkgfimdlhhiaa
