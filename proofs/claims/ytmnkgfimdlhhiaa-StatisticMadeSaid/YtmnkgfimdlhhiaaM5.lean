/-
  Published numbers: contents and noise made by dice; the sanity check.
  Published numbers: the sanity check.
  StatisticPrivate: the plain law; what stands while two blocks are written.
  StatisticPrivate: the walk.
  StatisticSpends: the plain law.
  A region that draws its order: what holds of it whatever the order, told by what each operation leaves behind it.
  A region's operations, one by one.
  StatisticSpends: the region that publishes.
  Conditions: those that each theorem names.
-/
import Derived.Test.YtmnkgfimdlhhiaaM4
import Derived.Conc.EntryLaws
import Derived.Laws.AppendOwnNone
import Derived.RegionTactic
set_option linter.unusedVariables false
set_option linter.unusedSimpArgs false
namespace Go.Proofs.Ytmnkgfimdlhhiaa
open Go.RowKit

theorem grown_lowE {w0 w w' : World} {D : Nat} (h : w0.grownBy w (some D)) (hb : Below w0.heap.size w w') : w0.grownBy w' (some D) :=
  ⟨hb.os.trans h.os, hb.tape.trans h.tape, hb.output.trans h.output, Nat.le_trans h.size hb.size, fun k hk hne => (hb.block k hk).trans (h.block k hk hne)⟩
/-- Contents made by dice. -/
def ConP (D : Nat) (most : Nat) (w : World) (e : Ending) (w' : World) : Prop :=
  ∃ (v : Value) (L : List Spd) (R' : List Int), e = .returned v ∧ ElOwn elC 65 w' w.heap.size v L ∧ Depts L 4 ∧ L.length ≤ most ∧ DiceAt w' D R' ∧ w.grownBy w' (some D)
theorem Depts.nil (n : Nat) : Depts [] n := fun x hx => (by cases hx)
theorem Depts.snoc {L : List Spd} {n : Nat} {x : Spd} (h : Depts L n) (hx : 0 ≤ x.2 ∧ x.2 < (n : Int)) : Depts (L ++ [x]) n := fun y hy => by
  rcases List.mem_append.1 hy with h1 | h1
  · exact h y h1
  · have : y = x := by simpa using h1
    subst this; exact hx
set_option maxRecDepth 100000 in
set_option maxHeartbeats 2000000 in
theorem contents_any (D : Nat) (R : List Int) (most : Nat) (w : World) (h : DiceAt w D R) (hm : most ≤ 1000) :
    Calls Try.prog 25 #[.pointer (some ⟨D, 0, none⟩), .int .i64 (most : Int)] w (ConP D most w) := by
  have hDl := h.lt
  have HD := Lib.hid h
  clear h
  have hm2 : (most : Int) + 1 ≤ 4611686018427387904 := by omega
  go_enter Try.func25, Try.ntmps25
  go_wp2_with fail
  refine (next_any D R ((most : Int) + 1) _ HD.out hm2).mono ?_
  rintro e w1 ⟨rfl, hD1, hg1⟩
  obtain ⟨m1, m2⟩ := nextV_range R ((most : Int) + 1) (by omega)
  generalize nextV R ((most : Int) + 1) = m at *
  obtain ⟨m, rfl⟩ := Int.eq_ofNat_of_zero_le m1
  have hmm : m ≤ most := by omega
  have HD1 := Lib.hid hD1
  have HG1 := Lib.hid hg1
  clear hD1 hg1 HD m1 m2 hm2
  go_wp2_with fail
  go_loopw [6, 5] (fun n l wr => ∃ (m' : Nat) (L : List Spd) (R' : List Int), n = .int .i64 m' ∧ ElOwn elC 65 wr w.heap.size l L ∧ Depts L 4 ∧ L.length + m' ≤ most ∧ DiceAt wr D R' ∧ w.grownBy wr (some D)) (fun n _ _ => (intOf n).toNat)
  case atStart => exact ⟨m, [], _, rfl, ElOwn.nil _ _ _ _, Depts.nil 4, (by simp; omega), HD1.out, HG1.out⟩
  case round =>
    obtain ⟨n, L, R', rfl, hown, hdep, hlen, hD, hg⟩ := hrel
    obtain ⟨U, uc, rfl, -, -, -, -, -⟩ := hown.at_
    have HOW := Lib.hid hown
    have HDE := Lib.hid hdep
    have HDD := Lib.hid hD
    have HG := Lib.hid hg
    clear hown hdep hD hg
    rcases n with _ | n
    · go_wp2_with fail
      go_ret
      exact ⟨_, L, R', rfl, HOW.out, HDE.out, by omega, HDD.out, HG.out⟩
    · have hn1 : (0 : Int) < ((n + 1 : Nat) : Int) := by omega
      go_wp2_with fail
      refine (next_any D R' 4 _ HDD.out (by omega)).mono ?_
      rintro e w2 ⟨rfl, hD2, hg2⟩
      obtain ⟨d1, d2⟩ := nextV_range R' 4 (by omega)
      generalize nextV R' 4 = d at *
      have HOW2 := Lib.hid (HOW.out.grown hg2 hDl)
      have HD2 := Lib.hid hD2
      have HG2 := Lib.hid (grown_trans HG.out hg2)
      have hs2 := hg2.size
      have hs0 := HG2.out.size
      have hL : L.length ≤ 1000 := by omega
      clear hD2 hg2 HOW HDD HG hn1
      go_wp2_with (at_builtin; refine app_el elC Try.underlying48 info_con rfl rfl (.tmp 15) (.tmp 22) rfl (base := w.heap.size) (S := L) ((L.length : Int), d) rfl rfl HOW2.out rfl (by omega) (by decide) hs0 ?_; intro v3 w3 hown3 hg3 hb3; clear HOW2)
      go_roundw
      case rel =>
        exact ⟨n, L ++ [((L.length : Int), d)], _, by go_num, hown3, HDE.out.snoc ⟨d1, d2⟩, by simp; omega, HD2.out.keep (fun x hx => hb3.block x (by omega)), grown_lowE HG2.out hb3⟩
      case measure => simp [intOf]

def NoiseP (D : Nat) (w : World) (e : Ending) (w' : World) : Prop := ∃ (T A B : Int) (R : List Int), e = .returned (nz T A B) ∧ Good T A B ∧ DiceAt w' D R ∧ w.grownBy w' (some D)
theorem pick4 {k : Nat} (h : k < 4) : 1 ≤ nth [3, 1, 6, 24] k ∧ nth [3, 1, 6, 24] k ≤ 24 := by
  have : k = 0 ∨ k = 1 ∨ k = 2 ∨ k = 3 := by omega
  rcases this with rfl | rfl | rfl | rfl <;> decide
set_option maxHeartbeats 400000 in
theorem pnoise_any (D : Nat) (R : List Int) (w : World) (h : DiceAt w D R) :
    Calls Try.prog 29 #[.pointer (some ⟨D, 0, none⟩)] w (NoiseP D w) := by
  have hDlt := h.lt
  go_enter Try.func29, Try.ntmps29
  go_wp2_with fail
  refine (next_any D R 3 _ (h.alloc _) (by omega)).mono ?_
  rintro e w1 ⟨rfl, hD1, hg1⟩
  obtain ⟨x1, x2⟩ := nextV_range R 3 (by omega)
  generalize nextV R 3 = x at *
  go_wp2_with fail
  refine (of_any D R.tail _ [3, 1, 6, 24] 4 _ (hD1.alloc _) (lit_ints w1 [3, 1, 6, 24]) (fun b off e => ?_) (by simp) (by simp)).mono ?_
  · have := hD1.lt
    injection e with e; injection e with e1; omega
  rintro e w2 ⟨kk, hkk, rfl, hD2, hg2⟩
  obtain ⟨t1, t2⟩ := pick4 (k := kk) hkk
  generalize nth [3, 1, 6, 24] kk = T at *
  go_wp2_with fail
  refine (next_any D R.tail.tail _ _ hD2 (by omega)).mono ?_
  rintro e w3 ⟨rfl, hD3, hg3⟩
  obtain ⟨z1, z2⟩ := nextV_range R.tail.tail (2 + x - 1) (by omega)
  generalize nextV R.tail.tail (2 + x - 1) = z at *
  have hg13 : w.grownBy w3 (some D) := grown_trans (grown_trans (grown_trans (grown_of_below (below_alloc w _)) hg1) (grown_of_below (below_alloc w1 _))) (grown_trans hg2 hg3)
  have hk : w3.heap[w.heap.size]? = some (.cells #[.int .i64 0, .int .i64 0, .int .i64 0] 47 (0, 0)) := by
    have s1 : w.heap.size < w1.heap.size := Nat.lt_of_lt_of_le (by simp) hg1.size
    have s2 : w1.heap.size < w2.heap.size := Nat.lt_of_lt_of_le (by simp) hg2.size
    have hne : some w.heap.size ≠ some D := fun e => by injection e with e; omega
    rw [hg3.block _ (by omega) hne, hg2.block _ (by simp; omega) hne, Below.heap_alloc _ _ _ s1, hg1.block _ (by simp) hne]
    exact heap_alloc_new w _
  have k0 := cell_of_row w3 w.heap.size 0 _ _ (0, 0) hk
  have k1 := cell_of_row w3 w.heap.size 1 _ _ (0, 0) hk
  have k2 := cell_of_row w3 w.heap.size 2 _ _ (0, 0) hk
  have f0 : w3.frozen? ⟨w.heap.size, 0, none⟩ = false := by simp [World.frozen?, hk]
  have f1 : w3.frozen? ⟨w.heap.size, 1, none⟩ = false := by simp [World.frozen?, hk]
  have f2 : w3.frozen? ⟨w.heap.size, 2, none⟩ = false := by simp [World.frozen?, hk]
  simp at k0 k1 k2
  have HH := Lib.hid (And.intro hD3 hg13)
  clear hD3 hg13 hk hg1 hg2 hg3 hD1 hD2 h
  go_wp2_with fail
  have HF : Hid (NoiseP D w (.returned (nz T (1 + z) (2 + x))) (((w3.setCell ⟨w.heap.size, 0, none⟩ (.int .i64 T)).setCell ⟨w.heap.size, 1, none⟩ (.int .i64 (1 + z))).setCell ⟨w.heap.size, 2, none⟩ (.int .i64 (2 + x)))) :=
    ⟨T, 1 + z, 2 + x, _, rfl, by unfold Good; omega, ((HH.out.1.setCell _ _ hDlt).setCell _ _ hDlt).setCell _ _ hDlt, grown_set (grown_set (grown_set HH.out.2 _ _ (Nat.le_refl _)) _ _ (Nat.le_refl _)) _ _ (Nat.le_refl _)⟩
  exact bodyPost_ret (v := nz T (1 + z) (2 + x)) (by simp [results, Try.results29, go_sem, k0, k1, k2]) rfl HF.out


def OneP (D : Nat) (R : List Int) (w : World) (e : Ending) (w' : World) : Prop := ∃ q : Bool, e = .returned (.bool q) ∧ DiceAt w' D R.tail ∧ w.grownBy w' (some D)
set_option maxHeartbeats 400000 in
theorem one_any (D : Nat) (R : List Int) (n : Int) (w : World) (h : DiceAt w D R) (hn : 1 ≤ n ∧ n ≤ 1000) :
    Calls Try.prog 35 #[.pointer (some ⟨D, 0, none⟩), .int .i64 n] w (OneP D R w) := by
  obtain ⟨n1, n2⟩ := hn
  go_enter Try.func35, Try.ntmps35
  go_wp2_with fail
  refine (next_any D R n _ h (by omega)).mono ?_
  rintro e w1 ⟨rfl, hD1, hg⟩
  have HH := Lib.hid (And.intro hD1 hg)
  clear hD1 hg h
  go_wp2_with fail
  go_ret
  exact ⟨_, rfl, HH.out⟩
end Go.Proofs.Ytmnkgfimdlhhiaa
namespace Go.Proofs.Ytmnkgfimdlhhiaa
open Go.RowKit

theorem ElAt.lits {α : Type} (E : El α) (w : World) (L : List α) (ty : TypeId) : ElAt E (w.alloc (.cells (E.flat L).toArray ty)) (some ⟨w.heap.size, 0, none⟩) L := fun k x hk => by
  refine ⟨_, _, rfl, by simp, fun j hj => ?_⟩
  have h := heap_alloc_new w (.cells (E.flat L).toArray ty)
  rw [Nat.zero_add, cell_of_row _ _ (k * E.n + j) _ _ (0, 0) h]
  have := E.flat_at L k x hk j hj
  simpa using this
theorem one_rowE {t c : Int} (k : Nat) (hk : k < [((t, c) : Spd)].length) : k = 0 := by simpa using hk
theorem aw39G : Good 4 1 2 := by unfold Good; omega
theorem aw39B0 : BudOK 5 1 [] := ⟨⟨by decide, by decide, by decide, by decide, by decide⟩, fun k hk => absurd hk (by simp), fun k hk => absurd hk (by simp)⟩
theorem aw39B1 : BudOK 5 1 [(2, 1)] := ⟨⟨by decide, by decide, by decide, by decide, by decide⟩,
  fun k hk => by rw [one_rowE k hk]; exact ⟨by decide, by decide, fun h => absurd h (by omega), by decide, by decide⟩, fun k hk => by rw [one_rowE k hk]; decide +kernel⟩
theorem aw39O : PbOK 4 1 2 [3] [0] := by decide +kernel
theorem aw39E1 : pbE 4 1 2 5 1 [] 2 [3] [0] = 0 := by
  rw [pbE_spend aw39G aw39O]
  exact (spE_good aw39B0 ⟨by decide, by decide, fun h => absurd h (by simp)⟩ (by decide) (by decide +kernel) (by decide)).symm
theorem aw39E2 : pbE 4 1 2 5 1 [(2, 1)] 3 [3] [0] = 56 := by
  rw [pbE_spend aw39G aw39O]
  exact (spE_left aw39B1 ⟨by decide, by decide, fun _ => by decide⟩ (by decide) (by decide +kernel)).symm
theorem aw39L : lnK 4 1 2 [(0, 3), (0, 3)] [3] [0] 1 = [(3, 0)] := by decide +kernel
theorem aw39W : wgL 4 1 2 [(0, 3), (0, 3)] [(3, 0)] = [8] ∧ wgE 4 1 2 [(3, 0)] = 0 := by decide +kernel
theorem aw39C : cntD 3 [(0, 3), (0, 3)] = 2 := by decide +kernel
theorem pub_aw1 (C X Y : Option Addr) (c cx cy : Nat) (W : World) (hL : ElAt elC W C [(0, 3), (0, 3)]) (hX : IntsAt W X [3]) (hY : IntsAt W Y [0]) :
    Calls Try.prog 26 #[nz 4 1 2, .agg #[.int .i64 5, .int .i64 1, .slice none 0 0], .int .i64 2, .slice C 2 c, .slice X 1 cx, .slice Y 1 cy] W (PubP 5 1 2 [(3, 0)] [(2, 1)] 0 W) := by
  have h := publish_any 4 1 2 5 1 none [] 0 2 C [(0, 3), (0, 3)] c X [3] cx Y [0] cy W (SpAt.nil _ _) (fun a e => by cases e) (fun _ => ⟨rfl, rfl⟩) (by simp) hL (by simp) hX (by simp) hY (by simp)
  unfold PubQ pbT pbL pbS at h
  rw [aw39E1, if_pos rfl, if_pos rfl, if_pos rfl] at h
  rw [show lnK 4 1 2 [(0, 3), (0, 3)] [3] [0] ([3] : List Int).length = [(3, 0)] from aw39L] at h
  exact h
theorem pub_aw2 (Q C X Y : Option Addr) (cq c cx cy : Nat) (W : World) (hS : SpAt W Q [(2, 1)]) (hQ : ∀ a, Q = some a → a.spot = none ∨ ([(2, 1)] : List Spd).length = 0) (hN : Q = none → ([(2, 1)] : List Spd).length = 0 ∧ cq = 0) (hL : ElAt elC W C [(0, 3), (0, 3)]) (hX : IntsAt W X [3]) (hY : IntsAt W Y [0]) :
    Calls Try.prog 26 #[nz 4 1 2, .agg #[.int .i64 5, .int .i64 1, .slice Q 1 cq], .int .i64 3, .slice C 2 c, .slice X 1 cx, .slice Y 1 cy] W (PubP 5 1 0 [] [(2, 1)] 56 W) := by
  have h := publish_any 4 1 2 5 1 Q [(2, 1)] cq 3 C [(0, 3), (0, 3)] c X [3] cx Y [0] cy W hS hQ hN (by simp) hL (by simp) hX (by simp) hY (by simp)
  unfold PubQ pbT pbL pbS at h
  rw [aw39E2, if_neg (by decide), if_neg (by decide), if_neg (by decide)] at h
  exact h
theorem weigh_aw (C U : Option Addr) (c cu : Nat) (W : World) (hL : ElAt elC W C [(0, 3), (0, 3)]) (hU : ElAt elL W U [(3, 0)]) :
    Calls Try.prog 27 #[nz 4 1 2, .slice C 2 c, .agg #[.int .i64 2, .slice U 1 cu]] W (fun e w' => ∃ b off c', e = .returned (.tuple #[.slice (some ⟨b, off, none⟩) 1 c', .int .i64 0]) ∧ b < w'.heap.size ∧ w'.cell? ⟨b, off, none⟩ = some (.int .i64 8) ∧ Below W.heap.size W w') := by
  refine (weigh_any 4 1 2 C [(0, 3), (0, 3)] c 2 U [(3, 0)] cu W hL (by simp) hU (by simp)).mono ?_
  rintro e w' ⟨u, rfl, hown, hb⟩
  rw [aw39W.2]
  rw [aw39W.1] at hown
  obtain ⟨A', c', rfl, hI⟩ := IntsAt.of_own hown rfl
  obtain ⟨b, off, rfl, hlt, hc⟩ := hI 0 (by simp)
  exact ⟨b, off, c', rfl, hlt, hc, hb⟩
theorem PubP.open_ {P Am tm : Int} {Ls S : List Spd} {E : Int} {w : World} {e : Ending} {w' : World} (h : PubP P Am tm Ls S E w e w') :
    ∃ U uc V vc, e = .returned (.tuple #[.agg #[.int .i64 tm, .slice U Ls.length uc], .agg #[.int .i64 P, .int .i64 Am, .slice V S.length vc], .int .i64 E]) ∧ ElOwn elL 74 w' w.heap.size (.slice U Ls.length uc) Ls ∧ SpOwn w' w.heap.size (.slice V S.length vc) S ∧ ElAt elL w' U Ls ∧ SpAt w' V S ∧ Below w.heap.size w w' := by
  obtain ⟨u, v, rfl, h1, h2, h3⟩ := h
  obtain ⟨U, uc, rfl, a1, -⟩ := h1.at_
  obtain ⟨V, vc, rfl, a2, -⟩ := h2.at_
  exact ⟨U, uc, V, vc, rfl, h1, h2, a1, a2, h3⟩
theorem gen_calls {P : Program} {f : FuncId} {args : Array Value} {W : World} {R : Ending → World → Prop} (h : ∀ W1, W1 = W → Calls P f args W1 R) : Calls P f args W R := h W rfl
theorem lit_at {w : World} {i : Nat} (x : Int) (h : i = w.heap.size) : IntsAt (w.alloc (.cells #[.int .i64 x] 3)) (some ⟨i, 0, none⟩) [x] := by subst h; exact lit_ints w [x]
set_option maxRecDepth 100000 in
set_option maxHeartbeats 4000000 in
theorem awake39 (w : World) : Calls Try.prog 24 #[] w (RetB (.bool true) w) := by
  go_enter Try.func24, Try.ntmps24
  go_wp2_with fail
  refine gen_calls fun W hW => ?_
  have hL : ElAt elC W (some ⟨w.heap.size, 0, none⟩) [(0, 3), (0, 3)] := by rw [hW]; exact (((ElAt.lits elC w [(0, 3), (0, 3)] 65).alloc _).alloc _).alloc _
  have hN : NzCell W (w.heap.size + 1) 4 1 2 := by rw [hW]; exact ((NzCell.new _ _ _ (by simp)).alloc _).alloc _
  have hX : IntsAt W (some ⟨w.heap.size + 1 + 1, 0, none⟩) [3] := by rw [hW]; exact (lit_at 3 (by simp)).below (below_alloc _ _)
  have hY : IntsAt W (some ⟨w.heap.size + 1 + 1 + 1, 0, none⟩) [0] := by rw [hW]; exact lit_at 0 (by simp)
  have hbW : Below w.heap.size w W := by rw [hW]; exact (((below_alloc _ _).alloc (by simp) _).alloc (by simp; omega) _).alloc (by simp; omega) _
  clear hW
  refine (pub_aw1 _ _ _ 2 1 1 _ hL hX hY).mono ?_
  intro e w1 hr
  obtain ⟨U, uc, V, vc, rfl, -, hv, hU, hV, hb1⟩ := hr.open_
  replace hN := hN.below hb1
  have HL := Lib.hid (hL.below hb1)
  have HU := Lib.hid hU
  have HV := Lib.hid hV
  have HQ := Lib.hid (And.intro hv.spotE hv.nilcapE)
  have hbw : Below w.heap.size w w1 := hbW.trans (hb1.mono hbW.size)
  have n0 := hN.c0
  have n1 := hN.c1
  have n2 := hN.c2
  have lN := hN.lt
  have l0 : w.heap.size < w1.heap.size := by omega
  have HN := Lib.hid hN
  clear hr hL hX hY hbW hU hV hv hb1 hN
  go_wp2_with fail
  refine gen_calls fun W hW => ?_
  have hX : IntsAt W (some ⟨w1.heap.size + 1 + 1, 0, none⟩) [3] := by rw [hW]; exact (lit_at 3 (by simp)).below (below_alloc _ _)
  have hY : IntsAt W (some ⟨w1.heap.size + 1 + 1 + 1, 0, none⟩) [0] := by rw [hW]; exact lit_at 0 (by simp)
  have hbW : Below w1.heap.size w1 W := by rw [hW]; exact (((below_alloc _ _).alloc (by simp) _).alloc (by simp; omega) _).alloc (by simp; omega) _
  have hT : TabCell W w1.heap.size 2 (.slice U 1 uc) := by rw [hW]; exact ((((TabCell.new _ _ rfl).below (below_alloc _ _)).below (below_alloc _ _)).below (below_alloc _ _))
  clear hW
  refine (pub_aw2 _ _ _ _ _ _ 1 1 _ (HV.out.below hbW) HQ.out.1 HQ.out.2 (HL.out.below hbW) hX hY).mono ?_
  intro e w2 hr
  obtain ⟨U2, uc2, V2, vc2, rfl, -, -, -, -, hb2⟩ := hr.open_
  have hb12 := hbW.trans (hb2.mono hbW.size)
  replace hT := hT.below hb2
  have hN := HN.out.below hb12
  have HL2 := Lib.hid (HL.out.below hb12)
  have HU2 := Lib.hid (HU.out.below hb12)
  have hbw2 : Below w.heap.size w w2 := hbw.trans (hb12.mono hbw.size)
  clear n0 n1 n2 lN hr hX hY hbW HN HL HU HV hb2 hb12
  have n0 := hN.c0
  have n1 := hN.c1
  have n2 := hN.c2
  have lN := hN.lt
  have l02 : w.heap.size < w2.heap.size := by omega
  have t0 := hT.c0
  have t1 := hT.c1
  have lT := hT.lt
  have HT := Lib.hid hT
  clear hN hT
  go_wp2_with fail
  refine gen_calls fun W hW => ?_
  have hbW : Below w2.heap.size w2 W := by rw [hW]; exact (below_alloc _ _).alloc (by simp) _
  clear hW
  refine (weigh_aw _ _ 2 uc _ (HL2.out.below hbW) (HU2.out.below hbW)).mono ?_
  rintro e w3 ⟨b, off, c', rfl, hlt, hc, hb3⟩
  have hb23 := hbW.trans (hb3.mono hbW.size)
  have HT3 := Lib.hid (HT.out.below hb23)
  have HL3 := Lib.hid (HL2.out.below hb23)
  have HU3 := Lib.hid (HU2.out.below hb23)
  have hbw3 : Below w.heap.size w w3 := hbw2.trans (hb23.mono hbw2.size)
  clear n0 n1 n2 lN t0 t1 lT HT HL2 HU2 hbW hb3 hb23 hbw hbw2
  have t0 := HT3.out.c0
  have t1 := HT3.out.c1
  have lT := HT3.out.lt
  have l2 := lin_cells HU3.out (k := 0) (by simp)
  obtain ⟨bu, ou, rfl, lbu, u0, u1⟩ := l2
  rw [Nat.zero_mul, Nat.add_zero] at u0 u1
  go_wp2_with fail
  have hcn := count_any _ [(0, 3), (0, 3)] 2 3 w3 HL3.out (by simp)
  rw [aw39C] at hcn
  refine ret_below hcn fun w4 hb4 => ?_
  clear hcn
  have HT4 := Lib.hid (HT3.out.below hb4)
  have HU4 := Lib.hid (HU3.out.below hb4)
  have hbw4 : Below w.heap.size w w4 := hbw3.trans (hb4.mono hbw3.size)
  have u0' := (hb4.cell (p := ⟨bu, ou, none⟩) lbu).trans u0
  have u1' := (hb4.cell (p := ⟨bu, ou + 1, none⟩) lbu).trans u1
  have hc' := (hb4.cell (p := ⟨b, off, none⟩) hlt).trans hc
  have s4 := hb4.size
  clear t0 t1 lT u0 u1 hc HT3 HU3 HL3
  have t0 := HT4.out.c0
  have t1 := HT4.out.c1
  have lT := HT4.out.lt
  have hqq : cS [((3, 0) : Spd)] 0 = 0 := rfl
  rw [hqq] at u1'
  go_wp2_with fail
  refine ret_below (sameT_any _ _ [(3, 0)] [(3, 0)] _ _ 2 2 _ HU4.out HU4.out (by simp) (by simp)) fun w5 hb5 => ?_
  go_wp2_with fail
  go_ret
  exact RetB.bool rfl (hbw4.trans (hb5.mono hbw4.size))
end Go.Proofs.Ytmnkgfimdlhhiaa
namespace Go.Proofs.Ytmnkgfimdlhhiaa
open Go.RowKit

/-! ### With one content more -/
theorem cntD_more (L : List Spd) (e d : Int) : cntD d (L ++ [(0, e)]) = cntD d L + oneD e d := by
  rw [cntD_append]; simp [cntD]
theorem clC_more {T : Int} (L : List Spd) (e d : Int) : clC T (L ++ [(0, e)]) d = clC T L d ∨ (e = d ∧ clC T (L ++ [(0, e)]) d = clC T L d + 1 ∧ clC T L d < T) := by
  unfold clC clampW
  rw [cntD_more]
  have := cntD_range d L
  by_cases h : e = d
  · rw [oneD_yes h]; omega
  · rw [oneD_no h, Int.add_zero]; exact .inl rfl
theorem weightW_rangeE {T A B a z : Int} (h : Good T A B) (ha : 0 ≤ a ∧ a ≤ T) (hz : 0 ≤ z ∧ z ≤ T) : 1 ≤ weightW T A B a z ∧ weightW T A B a z ≤ 1125899906842624 := by
  have hw := (WOK.of h ha).pos z.toNat
  obtain ⟨g1, g2, g3, g4, g5⟩ := h
  obtain ⟨z1, z2⟩ := hz
  rw [weightsL_len, nth_weightsL _ _ _ _ _ _ (by omega), show ((z.toNat : Nat) : Int) = z by omega] at hw
  exact hw (by omega)
theorem factor_loE {T A B k z : Int} (h : Good T A B) (hk : 0 ≤ k ∧ k < T) (hz : 0 ≤ z ∧ z ≤ T) (hzk : z ≤ k) : weightW T A B k z * A = weightW T A B (k + 1) z * B := by
  obtain ⟨t, a, b, rfl, rfl, rfl, h1, h2, h3, h4, h5⟩ := h.nats
  obtain ⟨k, rfl⟩ := Int.eq_ofNat_of_zero_le hk.1
  obtain ⟨z, rfl⟩ := Int.eq_ofNat_of_zero_le hz.1
  have hf := (okAt_factor (okAt_true t a b k h1 h2 h3 h4 h5 (by omega)) (by omega) (show z ≤ t by omega)).1 (by omega)
  rw [weightW_nat t a b k z h2 h4 h5 (by omega) (by omega), show (k : Int) + 1 = ((k + 1 : Nat) : Int) from rfl, weightW_nat t a b (k + 1) z h2 h4 h5 (by omega) (by omega), ← Int.natCast_mul, ← Int.natCast_mul, hf]
theorem factor_hiE {T A B k z : Int} (h : Good T A B) (hk : 0 ≤ k ∧ k < T) (hz : 0 ≤ z ∧ z ≤ T) (hzk : k < z) : weightW T A B k z * B = weightW T A B (k + 1) z * A := by
  obtain ⟨t, a, b, rfl, rfl, rfl, h1, h2, h3, h4, h5⟩ := h.nats
  obtain ⟨k, rfl⟩ := Int.eq_ofNat_of_zero_le hk.1
  obtain ⟨z, rfl⟩ := Int.eq_ofNat_of_zero_le hz.1
  have hf := (okAt_factor (okAt_true t a b k h1 h2 h3 h4 h5 (by omega)) (by omega) (show z ≤ t by omega)).2 (by omega)
  rw [weightW_nat t a b k z h2 h4 h5 (by omega) (by omega), show (k : Int) + 1 = ((k + 1 : Nat) : Int) from rfl, weightW_nat t a b (k + 1) z h2 h4 h5 (by omega) (by omega), ← Int.natCast_mul, ← Int.natCast_mul, hf]
theorem mul_lt4 {w A B : Int} (hw : 1 ≤ w) (h : A < B) : w * A < w * B := Int.mul_lt_mul_of_pos_left h (by omega)
/-- What the two weights of a line are to one another. -/
def PrV (A B w v st : Int) : Prop := (w = v ∧ st = 0) ∨ (w ≠ v ∧ st = 1 ∧ w * A = v * B) ∨ (w ≠ v ∧ st = 1 ∧ w * A ≠ v * B ∧ w * B = v * A)
theorem prV {T A B : Int} (hG : Good T A B) (L : List Spd) (e d z : Int) (hz : 0 ≤ z ∧ z ≤ T) :
    PrV A B (weightW T A B (clC T L d) z) (weightW T A B (clC T (L ++ [(0, e)]) d) z) (fc1 T L (L ++ [(0, e)]) d) := by
  have hT : 0 ≤ T := by have := hG.1; omega
  obtain ⟨c1, c2⟩ := clC_range L d hT
  unfold fc1
  rcases clC_more (T := T) L e d with h | ⟨_, h, hlt⟩
  · rw [h]; exact .inl ⟨rfl, by omega⟩
  · rw [h]
    generalize clC T L d = c at *
    have hw := weightW_rangeE hG (a := c) ⟨c1, c2⟩ hz
    have hv := weightW_rangeE hG (a := c + 1) ⟨by omega, by omega⟩ hz
    have hAB : A < B := hG.2.2.2.1
    have l1 := mul_lt4 hw.1 hAB
    have l2 := mul_lt4 hv.1 hAB
    by_cases hzc : z ≤ c
    · have hf := factor_loE hG ⟨c1, hlt⟩ hz hzc
      exact .inr (.inl ⟨fun e => by rw [e] at hf l1; omega, by omega, hf⟩)
    · have hf := factor_hiE hG ⟨c1, hlt⟩ hz (by omega)
      exact .inr (.inr ⟨fun e => by rw [e] at hf l1; omega, by omega, fun e => by omega, hf⟩)
theorem fc1_one {T : Int} (_ : 0 ≤ T) (L : List Spd) (e d : Int) : 0 ≤ fc1 T L (L ++ [(0, e)]) d ∧ fc1 T L (L ++ [(0, e)]) d ≤ oneD e d := by
  unfold fc1
  rcases clC_more (T := T) L e d with h | ⟨he, h, hlt⟩
  · rw [h]; have := oneD_range e d; omega
  · rw [h, oneD_yes he]; omega
theorem fcK_one {T : Int} (hT : 0 ≤ T) (L : List Spd) (e : Int) : 0 ≤ fcK T L (L ++ [(0, e)]) [0, 1, 2, 3] 4 ∧ fcK T L (L ++ [(0, e)]) [0, 1, 2, 3] 4 ≤ 1 := by
  have h0 := fc1_one hT L e 0
  have h1 := fc1_one hT L e 1
  have h2 := fc1_one hT L e 2
  have h3 := fc1_one hT L e 3
  have hs : oneD e 0 + oneD e 1 + oneD e 2 + oneD e 3 ≤ 1 := by unfold oneD; repeat (split <;> try omega)
  have hk : fcK T L (L ++ [(0, e)]) [0, 1, 2, 3] 4 = 0 + fc1 T L (L ++ [(0, e)]) 0 + fc1 T L (L ++ [(0, e)]) 1 + fc1 T L (L ++ [(0, e)]) 2 + fc1 T L (L ++ [(0, e)]) 3 := rfl
  omega

/-! ### What stands while some blocks are written -/
structure Kep (X : Nat → Prop) (w w' : World) : Prop where
  os : w'.os = w.os
  tape : w'.tape = w.tape
  output : w'.output = w.output
  size : w.heap.size ≤ w'.heap.size
  block : ∀ b, b < w.heap.size → ¬ X b → w'.heap[b]? = w.heap[b]?
theorem Kep.refl (X : Nat → Prop) (w : World) : Kep X w w := ⟨rfl, rfl, rfl, Nat.le_refl _, fun _ _ _ => rfl⟩
theorem Kep.below {X : Nat → Prop} {w w1 w2 : World} (h : Kep X w w1) (hb : Below w1.heap.size w1 w2) : Kep X w w2 :=
  ⟨hb.os.trans h.os, hb.tape.trans h.tape, hb.output.trans h.output, Nat.le_trans h.size hb.size, fun b hl hx => (hb.block b (Nat.lt_of_lt_of_le hl h.size)).trans (h.block b hl hx)⟩
theorem Kep.belowB {X : Nat → Prop} {w w1 w2 : World} {B : Nat} (h : Kep X w w1) (hb : Below B w1 w2) (hB : ∀ b, b < w.heap.size → ¬ X b → b < B) : Kep X w w2 :=
  ⟨hb.os.trans h.os, hb.tape.trans h.tape, hb.output.trans h.output, Nat.le_trans h.size hb.size, fun b hl hx => (hb.block b (hB b hl hx)).trans (h.block b hl hx)⟩
theorem Kep.grown {X : Nat → Prop} {w w1 w2 : World} {D : Nat} (h : Kep X w w1) (hg : w1.grownBy w2 (some D)) (hD : X D) : Kep X w w2 :=
  ⟨hg.os.trans h.os, hg.tape.trans h.tape, hg.output.trans h.output, Nat.le_trans h.size hg.size, fun b hl hx => (hg.block b (Nat.lt_of_lt_of_le hl h.size) (fun e => by injection e with e; subst e; exact hx hD)).trans (h.block b hl hx)⟩
theorem Kep.set {X : Nat → Prop} {w w1 : World} (h : Kep X w w1) (p : Addr) (u : Value) (hp : X p.block ∨ w.heap.size ≤ p.block) : Kep X w (w1.setCell p u) :=
  ⟨h.os, h.tape, h.output, by simpa [World.setCell] using h.size, fun b hl hx => (Below.heap_setCell w1 p u b (fun e => by subst e; rcases hp with hp | hp; exact hx hp; omega)).trans (h.block b hl hx)⟩
theorem Kep.drew {X : Nat → Prop} {w w1 : World} (h : Kep X w w1) : Kep X w w1.drew := ⟨h.os, h.tape, h.output, h.size, h.block⟩
theorem Kep.trans {X : Nat → Prop} {w w1 w2 : World} (h : Kep X w w1) (g : Kep X w1 w2) : Kep X w w2 :=
  ⟨g.os.trans h.os, g.tape.trans h.tape, g.output.trans h.output, Nat.le_trans h.size g.size, fun b hl hx => (g.block b (Nat.lt_of_lt_of_le hl h.size) hx).trans (h.block b hl hx)⟩
theorem Kep.toBelow {X : Nat → Prop} {w0 w w1 : World} (h : Kep X w w1) (hb : Below w0.heap.size w0 w) (hX : ∀ b, X b → w0.heap.size ≤ b) : Below w0.heap.size w0 w1 :=
  ⟨h.os.trans hb.os, h.tape.trans hb.tape, h.output.trans hb.output, Nat.le_trans hb.size h.size, fun b hl => (h.block b (Nat.lt_of_lt_of_le hl hb.size) (fun hx => by have := hX b hx; omega)).trans (hb.block b hl)⟩
theorem ElAt.kep {α : Type} {E : El α} {X : Nat → Prop} {w w' : World} {A : Option Addr} {L : List α} (h : ElAt E w A L) (hk : Kep X w w') (hX : ∀ a, A = some a → ¬ X a.block) : ElAt E w' A L := fun k x hkx => by
  obtain ⟨b, off, hA, hlt, hc⟩ := h k x hkx
  exact ⟨b, off, hA, Nat.lt_of_lt_of_le hlt hk.size, fun j hj => (World.cell?_of_block (w := w) (hk.block b hlt (hX _ hA))).trans (hc j hj)⟩
theorem IntsAt.kep {X : Nat → Prop} {w w' : World} {A : Option Addr} {L : List Int} (h : IntsAt w A L) (hk : Kep X w w') (hX : ∀ a, A = some a → ¬ X a.block) : IntsAt w' A L := fun k hkx => by
  obtain ⟨b, off, hA, hlt, hc⟩ := h k hkx
  exact ⟨b, off, hA, Nat.lt_of_lt_of_le hlt hk.size, (World.cell?_of_block (w := w) (hk.block b hlt (hX _ hA))).trans hc⟩
theorem SpAt.kep {X : Nat → Prop} {w w' : World} {A : Option Addr} {S : List Spd} (h : SpAt w A S) (hk : Kep X w w') (hX : ∀ a, A = some a → ¬ X a.block) : SpAt w' A S := fun k hkx => by
  obtain ⟨b, off, hA, hlt, hc, hd⟩ := h k hkx
  exact ⟨b, off, hA, Nat.lt_of_lt_of_le hlt hk.size, (World.cell?_of_block (w := w) (hk.block b hlt (hX _ hA))).trans hc, (World.cell?_of_block (w := w) (hk.block b hlt (hX _ hA))).trans hd⟩
theorem NzCell.kep {X : Nat → Prop} {w w' : World} {x : Nat} {T A B : Int} (h : NzCell w x T A B) (hk : Kep X w w') (hX : ¬ X x) : NzCell w' x T A B := (hk.block x h.lt hX).trans h

/-! ### A call of Next in a region that draws its order -/
theorem step_callE {ops : Array Oper} {o : Oper} {a : Act} {K : Act → World → Prop} {Q : Exit → Act → World → Prop} {E : Prop} (W : World) (hgd : o.guard = none) (f : FuncId) (aa : Array Operand) (ts : Array TypeId)
    (ho : o.op = .call { callee := .value (.func f), args := aa, argTypes := ts }) (hen : ∀ args w, (callFunc f args).run Try.prog w = .ok (.enter f args) w) (vs : Array Value) (hv : aa.map a.eval = vs)
    {R : Ending → World → Prop} (hc : Calls Try.prog f vs W R) (hK : ∀ e w', R e w' → ∃ v, e = .returned v ∧ K (a.put o.dst v) w') :
    if Region.wanted o (yielded ops a.tmps) = true then Oper.wp Try.prog o a W K Q else E := by
  have hw : Region.wanted o (yielded ops a.tmps) = true := by simp [Region.wanted, hgd]
  rw [if_pos hw]
  have hcc : (execOp a.eval o).run Try.prog W = .ok (.enter f vs) W := by
    rw [Go.Conc.execOp_call_func ho, hen, hv]
  unfold Oper.wp
  rw [hcc]
  refine Calls.mono hc ?_
  intro e w' hr
  obtain ⟨v, rfl, hk⟩ := hK e w' hr
  exact hk
theorem enter_nextE (args : Array Value) (w : World) : (callFunc 18 args).run Try.prog w = .ok (.enter 18 args) w :=
  Go.MuLone.run_callFunc_enter Try.func18 (by kernel_rfl) rfl args w
theorem step_nextE {ops : Array Oper} {o : Oper} {a : Act} {K : Act → World → Prop} {Q : Exit → Act → World → Prop} {E : Prop} {D : Nat} {R : List Int} (W : World) (hgd : o.guard = none) (s x : Operand) (n : Int)
    (ho : o.op = .call { callee := .value (.func 18), args := #[s, x], argTypes := #[29, 3] })
    (hs : a.eval s = .pointer (some ⟨D, 0, none⟩)) (hx : a.eval x = .int .i64 n) (hd : DiceAt W D R) (h1 : 1 ≤ n) (hn : n ≤ 4611686018427387904)
    (hK : ∀ (k : Nat) w', (k : Int) < n → DiceAt w' D R.tail → W.grownBy w' (some D) → K (a.put o.dst (.int .i64 (k : Int))) w') :
    if Region.wanted o (yielded ops a.tmps) = true then Oper.wp Try.prog o a W K Q else E := by
  refine step_callE W hgd _ _ _ ho enter_nextE #[.pointer (some ⟨D, 0, none⟩), .int .i64 n] (by rw [← hs, ← hx]; simp) (next_any D R n W hd hn) ?_
  rintro e w' ⟨rfl, hD, hg⟩
  obtain ⟨x1, x2⟩ := nextV_range R n h1
  obtain ⟨k, hk⟩ := Int.eq_ofNat_of_zero_le x1
  refine ⟨_, rfl, ?_⟩
  rw [hk]; exact hK k w' (by omega) hD hg
theorem grown_undrewE {w w' : World} {r : Option Nat} (h : w.drew.grownBy w' r) : w.grownBy w' r := ⟨h.os, h.tape, h.output, h.size, h.block⟩
theorem ElAt.keptA {α : Type} {E : El α} {w w' : World} {B : Nat} {A : Option Addr} {L : List α} (h : ElAt E w A L) (hb : Below B w w') (hB : ∀ a, A = some a → a.block < B) : ElAt E w' A L := fun k x hk => by
  obtain ⟨b, off, hA, hlt, hc⟩ := h k x hk
  exact ⟨b, off, hA, Nat.lt_of_lt_of_le hlt hb.size, fun j hj => (hb.cell (p := ⟨b, off + k * E.n + j, none⟩) (show b < B from hB ⟨b, off, none⟩ hA)).trans (hc j hj)⟩
/-- append of a slice of elements, nil or not, onto one of the call's own. -/
theorem app_elsN {α : Type} (E : El α) {t ty : TypeId} {z : Value} {bytes : Nat} (ht : Try.prog.underlying t = some (.slice ty)) (hinfo : (Try.prog.info? ty).map (fun i => (i.zero, i.size, i.bytes)) = some (some z, E.n, bytes)) (hzs : z.cells.size = E.n)
    {ops : Array Oper} {rest : List Oper} {o : Oper} {a : Act} {Q : Exit → Act → World → Prop} (hgd : o.guard = none) (s x : Operand)
    (ho : o.op = .call { callee := .builtin .append, args := #[s, x], argTypes := #[t, t] })
    {base : Nat} {w : World} {v : Value} {S : List α} (T : List α) (ad : Option Addr) (c : Nat) (hs : a.eval s = v) (hown : ElOwn E ty w base v S)
    (hx : a.eval x = .slice ad T.length c) (hT : ElAt E w ad T) (hN : ad = none → T.length = 0 ∧ c = 0) (hsp : ∀ a, ad = some a → a.spot = none) (hl : S.length + T.length ≤ 1000000) (hb : bytes ≤ 1000) (hbase : base ≤ w.heap.size)
    (h : ∀ v' w', ElOwn E ty w' base v' (S ++ T) → Below base w w' → wpList Try.prog ops Q rest (a.put o.dst v') w') :
    wpList Try.prog ops Q (o :: rest) a w := by
  obtain ⟨i0, hi, hz0, hz1, hz2⟩ := info_parts hinfo
  rcases ad with _ | ad
  · obtain ⟨h1, rfl⟩ := hN rfl
    have : T = [] := List.eq_nil_of_length_eq_zero h1
    subst this
    refine wpList_append_own_none hgd s x t ho base ty i0 E.n ht hi v S.length (E.flat S) hs hown hx ?_
    exact h v w (by rw [List.append_nil]; exact hown) (Below.refl _ _)
  · exact app_els E ht hinfo hzs hgd s x ho hs hown hx (hT.newsA (.inl (hsp ad rfl))) hl hb hbase fun v' w' h1 _ h3 => h v' w' h1 h3
end Go.Proofs.Ytmnkgfimdlhhiaa
namespace Go.Proofs.Ytmnkgfimdlhhiaa
open Go.RowKit

theorem mul_small {x y : Int} (hx : 1 ≤ x ∧ x ≤ 1125899906842624) (hy : 1 ≤ y ∧ y ≤ 4) : IntKind.i64.wrap (x * y) = x * y := by
  have h1 : x * y ≤ 1125899906842624 * 4 := Int.mul_le_mul hx.2 hy.2 (by omega) (by omega)
  have h2 : 0 ≤ x * y := Int.mul_nonneg (by omega) (by omega)
  exact IntWalk.i64_in _ (by omega)
/-- The weights of a table's lines lie in memory. -/
theorem weigh_good {T A B : Int} (hG : Good T A B) (C : Option Addr) (L : List Spd) (c : Nat) (tm : Int) (U : Option Addr) (Ls : List Spd) (cu : Nat) (w : World) (hL : ElAt elC w C L) (hl : L.length ≤ 100000) (hU : ElAt elL w U Ls) (hu : Ls.length = 4) (hz : ZOK T Ls) :
    Calls Try.prog 27 #[nz T A B, .slice C L.length c, .agg #[.int .i64 tm, .slice U 4 cu]] w (fun e w' => ∃ A' c', e = .returned (.tuple #[.slice A' 4 c', .int .i64 0]) ∧ IntsAt w' A' (Ls.map (wg1 T A B L)) ∧ Below w.heap.size w w') := by
  have h := weigh_any T A B C L c tm U Ls cu w hL hl hU (by omega)
  rw [hu] at h
  refine h.mono ?_
  rintro e w' ⟨u, rfl, hown, hb⟩
  have e1 : wgE T A B Ls = 0 := by unfold wgE; rw [if_pos hG, if_pos hz]
  have e2 : wgL T A B L Ls = Ls.map (wg1 T A B L) := by unfold wgL; rw [if_pos ⟨hG, hz⟩]
  rw [e1]
  unfold IntOwn at hown
  rw [e2] at hown
  obtain ⟨A', c', rfl, hI⟩ := IntsAt.of_own hown rfl
  exact ⟨A', c', by rw [List.length_map, hu], hI, hb⟩
theorem nth_map_wg {T A B : Int} {L Ls : List Spd} {k : Nat} (h : k < Ls.length) : nth (Ls.map (wg1 T A B L)) k = weightW T A B (clC T L (tS Ls k)) (cS Ls k) := by
  rw [nth_eq (by simpa using h)]
  simp [wg1, tS, cS, List.getD_eq_getElem?_getD, h]
theorem rows4 : RowsOK [0, 1, 2, 3] := by decide
theorem nth4 {k : Nat} (h : k < 4) : nth [0, 1, 2, 3] k = (k : Int) := by
  have : k = 0 ∨ k = 1 ∨ k = 2 ∨ k = 3 := by omega
  rcases this with rfl | rfl | rfl | rfl <;> rfl
theorem NzCell.frozen {w : World} {x : Nat} {T A B : Int} (h : NzCell w x T A B) (j : Nat) : w.frozen? ⟨x, j, none⟩ = false := by
  unfold NzCell at h; simp [World.frozen?, h]
theorem NzCell.set1 {w : World} {x : Nat} {T A B : Int} (h : NzCell w x T A B) (A' : Int) : NzCell (w.setCell ⟨x, 1, none⟩ (.int .i64 A')) x T A' B := by
  unfold NzCell at h ⊢; simp [World.setCell, Array.getElem?_modify, h]
theorem NzCell.grown {w w' : World} {x D : Nat} {T A B : Int} (h : NzCell w x T A B) (hg : w.grownBy w' (some D)) (hx : x ≠ D) : NzCell w' x T A B := (hg.block x h.lt (fun e => by injection e with e; exact hx e)).trans h
theorem TabCell.grown {w w' : World} {x D : Nat} {tm : Int} {v : Value} (h : TabCell w x tm v) (hg : w.grownBy w' (some D)) (hx : x ≠ D) : TabCell w' x tm v := (hg.block x h.lt (fun e => by injection e with e; exact hx e)).trans h
theorem grown_belowE {w0 w w' : World} {D : Nat} (h : Below w0.heap.size w0 w) (hg : w.grownBy w' (some D)) (hD : w0.heap.size ≤ D) : Below w0.heap.size w0 w' :=
  ⟨hg.os.trans h.os, hg.tape.trans h.tape, hg.output.trans h.output, Nat.le_trans h.size hg.size, fun k hk => (hg.block k (Nat.lt_of_lt_of_le hk h.size) (fun e => by injection e with e; omega)).trans (h.block k hk)⟩
theorem lin_snoc {Ls : List Spd} {k : Nat} {z : Int} (hl : Ls.length = k) (h : ∀ j, j < k → tS Ls j = (j : Int)) : ∀ j, j < k + 1 → tS (Ls ++ [((k : Int), z)]) j = (j : Int) := fun j hj => by
  by_cases e : j < k
  · rw [← h j e]; unfold tS; simp [List.getD_eq_getElem?_getD, List.getElem?_append_left (show j < Ls.length by omega)]
  · have : j = k := by omega
    subst this; unfold tS; subst hl; simp [List.getD_eq_getElem?_getD]
theorem zok_snoc {T : Int} {Ls : List Spd} {x z : Int} (h : ZOK T Ls) (hz : 0 ≤ z ∧ z ≤ T) : ZOK T (Ls ++ [(x, z)]) := fun j hj => by
  by_cases e : j < Ls.length
  · have := h j e
    unfold cS at this ⊢; rwa [show (Ls ++ [(x, z)]).getD j (0, 0) = Ls.getD j (0, 0) by simp [List.getD_eq_getElem?_getD, List.getElem?_append_left e]]
  · have : j = Ls.length := by simp at hj; omega
    subst this; unfold cS; simp [List.getD_eq_getElem?_getD]; exact hz
theorem four_lits (w : World) : IntsAt (w.alloc (.cells #[.int .i64 0, .int .i64 1, .int .i64 2, .int .i64 3] 3)) (some ⟨w.heap.size, 0, none⟩) [0, 1, 2, 3] := lit_ints w [0, 1, 2, 3]

set_option maxRecDepth 100000 in
set_option maxHeartbeats 8000000 in
theorem statisticPrivate_walk (A0 : Option Addr) (L0 : List Int) (c0 : Nat) (w : World) (hl0 : L0.length ≤ maxLen) (hI0 : IntsAt w A0 L0) (_ : ∀ n ∈ L0, -9223372036854775808 ≤ n ∧ n ≤ 9223372036854775807) :
    Calls Try.prog 11 #[.slice A0 L0.length c0] w (RetB (.bool true) w) := by
  have hL := light_any A0 L0.length c0 w
  by_cases hlight : (L0.length : Int) ≤ 500
  case neg =>
    rw [decide_eq_false hlight] at hL
    have HLt := Lib.hid hL
    clear hL hlight
    go_enter Try.func11, Try.ntmps11
    go_wp2_with fail
    refine ret_pure HLt.out ?_
    go_wp2_with fail
    refine ret_below (awake39 _) fun w1 hb1 => ?_
    go_wp2_with fail
    go_ret
    exact RetB.bool rfl hb1
  case pos =>
    rw [decide_eq_true hlight] at hL
    have HLt := Lib.hid hL
    clear hL hlight
    go_enter Try.func11, Try.ntmps11
    go_wp2_with fail
    refine ret_pure HLt.out ?_
    clear HLt
    go_wp2_with fail
    refine (roll_any A0 L0 c0 _ hl0 hI0).mono ?_
    rintro e w1 ⟨D, rfl, hDs, hD, hb1⟩
    clear hI0 hl0
    go_wp2_with fail
    refine (next_any D L0 6 _ hD (by omega)).mono ?_
    rintro e w2 ⟨rfl, hD2, hg2⟩
    obtain ⟨x1, x2⟩ := nextV_range L0 6 (by omega)
    generalize nextV L0 6 = x at *
    generalize L0.tail = R2 at *
    go_wp2_with fail
    refine (next_any D R2 3 _ hD2 (by omega)).mono ?_
    rintro e w3 ⟨rfl, hD3, hg3⟩
    obtain ⟨y1, y2⟩ := nextV_range R2 3 (by omega)
    generalize nextV R2 3 = y at *
    generalize R2.tail = R3 at *
    have hb3 := grown_belowE (grown_belowE hb1 hg2 hDs) hg3 hDs
    have hD3l := hD3.lt
    clear hD hD2 hg2 hg3 hb1
    go_wp2_with fail
    obtain ⟨T, hT⟩ : ∃ T, T = 1 + x := ⟨_, rfl⟩
    obtain ⟨B, hB⟩ : ∃ B, B = 2 + y := ⟨_, rfl⟩
    have hN3 : NzCell (w3.alloc (.cells #[.int .i64 (1 + x), .int .i64 0, .int .i64 (2 + y)] 47)) w3.heap.size (1 + x) 0 (2 + y) := NzCell.new _ _ _ rfl
    refine (next_any D R3 (2 + y - 1) _ (hD3.alloc _) (by omega)).mono ?_
    rintro e w4 ⟨rfl, hD4, hg4⟩
    obtain ⟨z1, z2⟩ := nextV_range R3 (2 + y - 1) (by omega)
    generalize nextV R3 (2 + y - 1) = z at *
    generalize R3.tail = R4 at *
    have hN4 := hN3.grown hg4 (by omega)
    have hb4 := grown_belowE (hb3.alloc hb3.size (.cells #[.int .i64 (1 + x), .int .i64 0, .int .i64 (2 + y)] 47)) hg4 hDs
    obtain ⟨nb, hnb⟩ : ∃ nb, nb = w3.heap.size := ⟨_, rfl⟩
    have hnb1 : D < nb := by omega
    rw [← hnb] at hN4 ⊢
    have c0' := hN4.c0
    have c1' := hN4.c1
    have c2' := hN4.c2
    have f1' := hN4.frozen 1
    have lN4 := hN4.lt
    have HN4 := Lib.hid hN4
    clear hN3 hN4 hg4 hD3 hD3l hnb hb3
    go_wp2_with fail
    refine gen_calls fun W hW => ?_
    have hNW : NzCell W nb T (1 + z) B := by rw [hW, hT, hB]; exact HN4.out.set1 _
    have hDW : DiceAt W D R4 := by rw [hW]; exact hD4.setCell _ _ hnb1
    have hbW : Below w.heap.size w W := by rw [hW]; exact below_set hb4 _ _ (by have := hb4.size; simp; omega)
    have hG : Good T (1 + z) B := by unfold Good; omega
    obtain ⟨A, hA⟩ : ∃ A, A = 1 + z := ⟨_, rfl⟩
    rw [← hA] at hNW hG
    rw [← hT, ← hB, ← hA]
    clear hW HN4 c0' c1' c2' f1' lN4 hD4 hb4 hT hB hA x1 x2 y1 y2 z1 z2
    have hD1 := hDW.lt
    have hn1 := hNW.lt
    refine (contents_any D R4 9 W hDW (by omega)).mono ?_
    rintro e w5 ⟨v5, L, R5, rfl, hown5, hdep, hlen, hD5, hg5⟩
    obtain ⟨U, uc, rfl, hU5, hUn, hUb, -, -⟩ := hown5.at_
    have hN5 := hNW.grown hg5 (by omega)
    have hb5 := grown_belowE hbW hg5 hDs
    have hs5 := hg5.size
    have HG := Lib.hid hG
    have HUN := Lib.hid hUn
    have HUB := Lib.hid hUb
    have HU5 := Lib.hid hU5
    have HN5 := Lib.hid hN5
    have HD5 := Lib.hid hD5
    obtain ⟨g1, g2, g3, g4, g5⟩ := hG
    clear hown5 hg5 hNW hbW hDW hdep hUn hUb hU5 hN5 hD5
    go_wp2_with (at_builtin; refine app_elsN elC Try.underlying48 info_con rfl rfl (.const (.slice none 0 0)) (.tmp 39) rfl (base := w5.heap.size) (S := []) (v := .slice none 0 0) L U uc rfl (ElOwn.nil _ _ _ _) rfl HU5.out HUN.out (fun a e => (HUB.out a e).2.1) (by simp; omega) (by decide) (Nat.le_refl _) ?_; intro v6 w6 hown6 hb6; rw [List.nil_append] at hown6; have HO6 := Lib.hid hown6; clear hown6)
    have HD6 := Lib.hid (HD5.out.below hb6)
    refine (next_any D R5 5 _ HD6.out (by omega)).mono ?_
    rintro e w7 ⟨rfl, hD7, hg7⟩
    generalize nextV R5 5 = ee at *
    generalize R5.tail = R7 at *
    have hD5l := HD5.out.lt
    have HO7 := Lib.hid (HO6.out.grown hg7 (by omega))
    have HU7 := Lib.hid ((HU5.out.below hb6).grown hg7 (fun b off e => by have := (HUB.out _ e).2.2.1; dsimp only at this; omega))
    have HN7 := Lib.hid ((HN5.out.below hb6).grown hg7 (by omega))
    have hb7 := grown_belowE (hb5.trans (hb6.mono hb5.size)) hg7 hDs
    have HD7 := Lib.hid hD7
    have hs6 := hb6.size
    have hs7 := hg7.size
    obtain ⟨V6, vc6, rfl, -, -, -, -, -⟩ := HO6.out.at_
    clear hg7 hD7 HD6 HO6 hb6 HD5 HU5 HN5 hb5
    go_wp2_with (at_builtin; refine app_el elC Try.underlying48 info_con rfl rfl (.tmp 40) (.tmp 45) rfl (base := w5.heap.size) (S := L) (v := .slice V6 L.length vc6) ((0 : Int), ee) rfl rfl HO7.out rfl (by omega) (by decide) (by omega) ?_; intro v8 w8 hown8 hg8 hb8; obtain ⟨V, vc, e8, hV8, -, hVb, -, -⟩ := hown8.at_; rw [show (L ++ [((0 : Int), ee)]).length = L.length + 1 by simp] at e8; subst e8; have HV8 := Lib.hid hV8; have HVB := Lib.hid hVb; clear hown8 hg8 hV8 hVb HO7)
    refine gen_world fun w9 hw9 => ?_
    have HU8 := Lib.hid (HU7.out.keptA hb8 (fun a e => (HUB.out a e).2.2.2))
    have HN8 := Lib.hid (HN7.out.keptB hb8 (by omega))
    have hT9 : TabCell w9 w8.heap.size 0 (.slice none 0 0) := by rw [hw9]; exact TabCell.new _ _ rfl
    have HU9 := Lib.hid (show ElAt elC w9 U L by rw [hw9]; exact HU8.out.alloc _)
    have HV9 := Lib.hid (show ElAt elC w9 V (L ++ [((0 : Int), ee)]) by rw [hw9]; exact HV8.out.alloc _)
    have HN9 := Lib.hid (show NzCell w9 nb T A B by rw [hw9]; exact HN8.out.alloc _)
    have HD9 := Lib.hid (show DiceAt w9 D R7 by rw [hw9]; exact (HD7.out.keep (fun x hx => hb8.block x (by omega))).alloc _)
    have hb9 : Below w.heap.size w w9 := by rw [hw9]; exact (hb7.trans (hb8.mono (by omega))).alloc (by have := hb7.size; have := hb8.size; omega) _
    have htb : w8.heap.size < w9.heap.size := by rw [hw9]; simp
    have hs9 : w9.heap.size = w8.heap.size + 1 := by rw [hw9]; simp
    obtain ⟨tb, htb2⟩ : ∃ tb, tb = w8.heap.size := ⟨_, rfl⟩
    have hDtb : D < tb := by have := HD7.out.lt; have := hb8.size; omega
    have hntb : nb < tb := by have := HN8.out.lt; omega
    have HUX := Lib.hid (show ∀ a, U = some a → ¬ (a.block = D ∨ a.block = tb) from fun a e => by have := (HUB.out a e).2.2; have := hb8.size; omega)
    have HVX := Lib.hid (show ∀ a, V = some a → ¬ (a.block = D ∨ a.block = tb) from fun a e => by have := (HVB.out a e).2.2; omega)
    have hwtb : w.heap.size ≤ tb := by have := hb7.size; have := hb8.size; omega
    rw [← htb2] at hT9 htb hs9 ⊢
    clear hw9 HU8 HN8 HV8 HVB HUB HUN HU7 HN7 HD7 htb2 hb7 hb8
    have HT9 := Lib.hid hT9
    clear hT9
    go_wp2_with fail
    go_loopw [8] (fun i wr => ∃ (k : Nat) (u : Value) (Ls : List Spd) (R' : List Int), i = .int .i64 k ∧ k ≤ 4 ∧ TabCell wr tb 0 u ∧ ElOwn elL 74 wr (tb + 1) u Ls ∧ Ls.length = k ∧ (∀ j, j < k → tS Ls j = (j : Int)) ∧ ZOK T Ls ∧ DiceAt wr D R' ∧ Kep (fun b => b = D ∨ b = tb) w9 wr) (fun i _ => 4 - (intOf i).toNat)
    case atStart => exact ⟨0, _, [], R7, rfl, by omega, HT9.out, ElOwn.nil _ _ _ _, rfl, fun j hj => absurd hj (by omega), fun j hj => absurd hj (by simp), HD9.out, Kep.refl _ _⟩
    case round =>
      obtain ⟨k, u, Ls, R', rfl, hk, hT, hown, hln, hts, hzo, hDr, hkp⟩ := hrel
      have hN := HN9.out.kep hkp (by omega)
      have n0 := hN.c0
      have n1 := hN.c1
      have n2 := hN.c2
      have lN := hN.lt
      have t0 := hT.c0
      have t1 := hT.c1
      have f1 := hT.frozen 1
      have lT := hT.lt
      have hkps := hkp.size
      obtain ⟨Uu, uc2, eu, hUu, -, -, -, -⟩ := hown.at_
      rw [hln] at eu
      subst eu
      have HLN := Lib.hid hln
      have HTS := Lib.hid hts
      have HZO := Lib.hid hzo
      have HDR := Lib.hid hDr
      have HKP := Lib.hid hkp
      have HT := Lib.hid hT
      have HOW := Lib.hid hown
      have HNR := Lib.hid hN
      clear hln hts hzo hDr hkp hT hown hN
      by_cases hlt : (k : Int) < 4
      · have v1 : IntKind.i64.wrap (T + 1) = T + 1 := IntWalk.i64_in _ (by omega)
        go_wp2_with fail
        go_region_law (first
          | (refine step_nextE _ rfl (.tmp 54) (.tmp 57) (T + 1) rfl rfl rfl (by exact HDR.out) (by omega) (by omega) ?_; intro z w5' hz hD5 hg5; have hg5' : wr.grownBy w5' (some D) := (by first | exact hg5 | exact grown_undrewE hg5); have hT5 := HT.out.grown hg5' (by omega); have q1 := hT5.c1; have q2 := hT5.frozen 1; have q3 := hT5.lt; have hN5 := HNR.out.grown hg5' (by omega); have q4 := hN5.c0; have HOW5 := Lib.hid (HOW.out.grown hg5' (by omega)); have HT5 := Lib.hid hT5; have s5 := hg5'.size)
          | (refine step_app_el elL Try.underlying50 info_line rfl _ rfl (.tmp 52) (.tmp 60) rfl w5' (tb + 1) (.slice Uu k uc2) k Ls ((k : Int), (z : Int)) rfl (by simp [Act.eval]) (by simp [Act.eval]) ⟨rfl, rfl, rfl, rfl⟩ HLN.out.symm (by omega) (by decide) HOW5.out (by omega) ?_; intro g8 c8 w8' hown8 hb8; have hT8 := HT5.out.keptB hb8 (by omega); have p0 := hT8.c0; have p1 := hT8.c1; have p2 := hT8.frozen 1; have p3 := hT8.lt; have HT8 := Lib.hid hT8; have HOW8 := Lib.hid hown8))
        all_goals
          have HKF := Lib.hid ((((HKP.out.grown hg5' (.inl rfl)).belowB hb8 (fun b hl hx => by omega)).set ⟨tb, 1, none⟩ (.slice (some ⟨g8, 0, none⟩) (k + 1) c8) (.inl (.inr rfl))))
          have HDF := Lib.hid ((hD5.keep (fun x hx => hb8.block x (by omega))).setCell ⟨tb, 1, none⟩ (.slice (some ⟨g8, 0, none⟩) (k + 1) c8) (by simp; omega))
          clear hT8 hown8 hb8 hT5 hN5 hg5 hg5' hD5
          go_wp2_with fail
          go_roundw
          case rel => exact ⟨k + 1, _, Ls ++ [((k : Int), (z : Int))], _, by go_num, by omega, HT8.out.set1 _, HOW8.out.set_ _ _ (by simp), by simp [HLN.out], lin_snoc HLN.out HTS.out, zok_snoc HZO.out (by omega), HDF.out, HKF.out⟩
          case measure => simp [intOf]; omega
      · obtain rfl : k = 4 := by omega
        have hbr : Below w.heap.size w wr := HKP.out.toBelow hb9 (fun b hx => by omega)
        have HUR := Lib.hid (HU9.out.kep HKP.out HUX.out)
        have HVR := Lib.hid (HV9.out.kep HKP.out HVX.out)
        have HUU := Lib.hid hUu
        clear HU9 HV9 HN9 HD9 HT9 hUu HKP HOW HDR
        go_wp2_with fail
        refine (weigh_good HG.out U L uc 0 Uu Ls uc2 _ HUR.out (by omega) HUU.out HLN.out HZO.out).mono ?_
        rintro e wa ⟨Wa, wca, rfl, hWa, hba⟩
        have hNa := HNR.out.below hba
        have hTa := HT.out.below hba
        have HWa := Lib.hid hWa
        have HVa := Lib.hid (HVR.out.below hba)
        have HUa := Lib.hid (HUR.out.below hba)
        have HUUa := Lib.hid (HUU.out.below hba)
        have hbwa := hbr.trans (hba.mono hbr.size)
        clear n0 n1 n2 lN t0 t1 f1 lT HNR HT HUR HVR HUU hba hWa hbr
        have n0 := hNa.c0
        have n1 := hNa.c1
        have n2 := hNa.c2
        have lN := hNa.lt
        have t0 := hTa.c0
        have t1 := hTa.c1
        have lT := hTa.lt
        have HNa := Lib.hid hNa
        have HTa := Lib.hid hTa
        clear hNa hTa
        go_wp2_with fail
        have hwv := weigh_good HG.out V (L ++ [((0 : Int), ee)]) vc 0 Uu Ls uc2 wa HVa.out (by simp; omega) HUUa.out HLN.out HZO.out
        rw [show (L ++ [((0 : Int), ee)]).length = L.length + 1 by simp] at hwv
        refine hwv.mono ?_
        clear hwv
        rintro e wb ⟨Wb, wcb, rfl, hWb, hbb⟩
        have hNb := HNa.out.below hbb
        have HWa2 := Lib.hid (HWa.out.below hbb)
        have HWb := Lib.hid hWb
        have HVb := Lib.hid (HVa.out.below hbb)
        have HUb := Lib.hid (HUa.out.below hbb)
        have hbwb := hbwa.trans (hbb.mono hbwa.size)
        clear n0 n1 n2 lN t0 t1 lT HNa HTa HUa HVa HUUa hbb hWb hbwa HWa
        have n0 := hNb.c0
        have n1 := hNb.c1
        have n2 := hNb.c2
        have lN := hNb.lt
        have HNb := Lib.hid hNb
        clear hNb
        go_wp2_with fail
        refine gen_calls fun W hW => ?_
        have hbW : Below wb.heap.size wb W := by rw [hW]; exact below_alloc _ _
        have hX : IntsAt W (some ⟨wb.heap.size, 0, none⟩) [0, 1, 2, 3] := by rw [hW]; exact four_lits wb
        clear hW
        have hfc := factor_any T A B U V L (L ++ [((0 : Int), ee)]) uc vc (some ⟨wb.heap.size, 0, none⟩) [0, 1, 2, 3] 4 W (HUb.out.below hbW) (HVb.out.below hbW) (by omega) (by simp; omega) hX (by simp)
        rw [show (L ++ [((0 : Int), ee)]).length = L.length + 1 by simp] at hfc
        refine hfc.mono ?_
        clear hfc
        rintro e wc ⟨rfl, hbc⟩
        have e1 : fcE T A B [0, 1, 2, 3] = 0 := by unfold fcE; rw [if_pos HG.out, if_pos rows4]
        have e2 : fcV T A B L (L ++ [((0 : Int), ee)]) [0, 1, 2, 3] = fcK T L (L ++ [((0 : Int), ee)]) [0, 1, 2, 3] 4 := by unfold fcV; rw [if_pos ⟨HG.out, rows4⟩]; rfl
        rw [e1, e2]
        clear e1 e2
        obtain ⟨x1, x2⟩ := fcK_one (T := T) (by omega) L ee
        have hbWc := hbW.trans (hbc.mono hbW.size)
        have HNc := Lib.hid (HNb.out.below hbWc)
        have HWac := Lib.hid (HWa2.out.below hbWc)
        have HWbc := Lib.hid (HWb.out.below hbWc)
        have hbwc := hbwb.trans (hbWc.mono hbwb.size)
        clear n0 n1 n2 lN HNb HWa2 HWb hbW hbc hbWc hX hbwb HUb HVb
        have HF4 := Lib.hid (show fcK T L (L ++ [((0 : Int), ee)]) [0, 1, 2, 3] 4 = fcK T L (L ++ [((0 : Int), ee)]) [0, 1, 2, 3] 4 from rfl)
        have HFR := Lib.hid (fun k => fcK_range (T := T) (by omega) L (L ++ [((0 : Int), ee)]) [0, 1, 2, 3] k)
        obtain ⟨xx, hxx⟩ : ∃ xx, xx = fcK T L (L ++ [((0 : Int), ee)]) [0, 1, 2, 3] 4 := ⟨_, rfl⟩
        rw [← hxx] at x1 x2 ⊢
        have HXX := Lib.hid hxx
        clear hxx HF4
        go_wp2_with fail
        go_loopw [16, 15] (fun i c wr' => ∃ (k : Nat), k ≤ 4 ∧ i = .int .i64 k ∧ c = .int .i64 (fcK T L (L ++ [((0 : Int), ee)]) [0, 1, 2, 3] k) ∧ Below wc.heap.size wc wr') (fun i _ _ => 4 - (intOf i).toNat)
        case atStart => exact ⟨0, by omega, rfl, rfl, Below.refl _ _⟩
        case round =>
          obtain ⟨k, hk4, rfl, rfl, hbr⟩ := hrel
          have hNr := HNc.out.below hbr
          have n0 := hNr.c0
          have n1 := hNr.c1
          have n2 := hNr.c2
          have lN := hNr.lt
          obtain ⟨r1, r2⟩ := HFR.out k
          by_cases hlt4 : k < 4
          · have hlm : k < (Ls.map (wg1 T A B L)).length := by rw [List.length_map, HLN.out]; exact hlt4
            have hlm2 : k < (Ls.map (wg1 T A B (L ++ [((0 : Int), ee)]))).length := by rw [List.length_map, HLN.out]; exact hlt4
            have hkL : k < Ls.length := by rw [HLN.out]; exact hlt4
            obtain ⟨b1, o1, rfl, lb1, m1⟩ := (HWac.out.below hbr) k hlm
            obtain ⟨b2, o2, rfl, lb2, m2⟩ := (HWbc.out.below hbr) k hlm2
            rw [nth_map_wg hkL] at m1 m2
            have hzz := HZO.out k hkL
            have hpv := prV HG.out L ee (tS Ls k) (cS Ls k) hzz
            have hw1 := weightW_rangeE HG.out (clC_range L (tS Ls k) (show 0 ≤ T by omega)) hzz
            have hw2 := weightW_rangeE HG.out (clC_range (L ++ [((0 : Int), ee)]) (tS Ls k) (show 0 ≤ T by omega)) hzz
            have HFS := Lib.hid (show fcK T L (L ++ [((0 : Int), ee)]) [0, 1, 2, 3] (k + 1) = fcK T L (L ++ [((0 : Int), ee)]) [0, 1, 2, 3] k + fc1 T L (L ++ [((0 : Int), ee)]) (tS Ls k) by rw [HTS.out k hlt4]; show _ + fc1 T L _ (nth [0, 1, 2, 3] k) = _; rw [nth4 hlt4])
            generalize weightW T A B (clC T L (tS Ls k)) (cS Ls k) = wk at *
            generalize weightW T A B (clC T (L ++ [((0 : Int), ee)]) (tS Ls k)) (cS Ls k) = vk at *
            generalize fc1 T L (L ++ [((0 : Int), ee)]) (tS Ls k) = st at *
            generalize fcK T L (L ++ [((0 : Int), ee)]) [0, 1, 2, 3] k = fk at *
            have hk0 : (0 : Int) ≤ (k : Int) := by omega
            have hk5 : (k : Int) < 4 := by omega
            have p1 := mul_small (y := A) hw1 (by omega)
            have p2 := mul_small (y := B) hw1 (by omega)
            have p3 := mul_small (y := A) hw2 (by omega)
            have p4 := mul_small (y := B) hw2 (by omega)
            have HPR := Lib.hid hpv
            clear hpv hlm hlm2 hzz
            rcases HPR.out with ⟨e1, e2⟩ | ⟨e1, e2, e3⟩ | ⟨e1, e2, e3, e4⟩
            · obtain ⟨q1, q2, q3, q4⟩ := CmpF.yes e1
              have E2 := Lib.hid e2
              clear e1 e2 p1 p2 p3 p4
              go_wp2_with fail
              go_quiet (fail)
              go_wp2_with fail
              go_roundw
              case rel => exact ⟨k + 1, by omega, by go_num, by rw [HFS.out, E2.out, Int.add_zero], below_drewN hbr _⟩
              case measure => simp [intOf]; omega
            · obtain ⟨q1, q2, q3, q4⟩ := CmpF.no e1
              obtain ⟨q5, q6, q7, q8⟩ := CmpF.yes e3
              have E2 := Lib.hid e2
              clear e1 e2 e3
              go_wp2_with fail
              go_quiet (fail)
              go_wp2_with fail
              go_quiet (fail)
              go_wp2_with fail
              go_roundw
              case rel => exact ⟨k + 1, by omega, by go_num, by rw [HFS.out, E2.out], by first | exact below_drewN hbr _ | exact below_drewN (below_drewN hbr _) _⟩
              case measure => simp [intOf]; omega
            · obtain ⟨q1, q2, q3, q4⟩ := CmpF.no e1
              obtain ⟨q5, q6, q7, q8⟩ := CmpF.no e3
              obtain ⟨q9, q10, q11, q12⟩ := CmpF.yes e4
              have E2 := Lib.hid e2
              clear e1 e2 e3 e4
              go_wp2_with fail
              go_quiet (fail)
              go_wp2_with fail
              go_quiet (fail)
              go_wp2_with fail
              go_roundw
              case rel => exact ⟨k + 1, by omega, by go_num, by rw [HFS.out, E2.out], by first | exact below_drewN hbr _ | exact below_drewN (below_drewN hbr _) _⟩
              case measure => simp [intOf]; omega
          · obtain rfl : k = 4 := by omega
            rw [← HXX.out]
            have qx : (xx == xx) = true := by simp
            clear n0 n1 n2 lN hNr r1 r2
            go_wp2_with fail
            refine ret_below (awake39 _) fun wz hbz => ?_
            go_wp2_with fail
            go_ret
            exact RetB.bool rfl ((hbwc.trans (hbr.mono hbwc.size)).trans (hbz.mono (Nat.le_trans hbwc.size hbr.size)))
end Go.Proofs.Ytmnkgfimdlhhiaa
namespace Go.Proofs.Ytmnkgfimdlhhiaa
open Go.RowKit

/-- The count of tables in each period is what the budget has spent in it. -/
def CntOK (P : Int) (S : List Spd) (cs : List Int) : Prop := cs.length = 200 ∧ ∀ p : Nat, p < 200 → nth cs p = used P S ((p : Int) * P)
theorem nth_zero (n p : Nat) (h : p < n) : nth (List.replicate n 0) p = 0 := by rw [nth_eq (by simpa using h)]; simp
theorem CntOK.nil (P : Int) : CntOK P [] (List.replicate 200 0) := ⟨List.length_replicate .., fun p hp => by rw [nth_zero _ _ hp]; rfl⟩
theorem div_mul_same {P : Int} (hP : 1 ≤ P) (p : Int) : p * P / P = p := Int.mul_ediv_cancel p (by omega)
theorem CntOK.at_ {P tm : Int} {S : List Spd} {cs : List Int} (h : CntOK P S cs) (hP : 1 ≤ P) (h0 : 0 ≤ tm) (h1 : tm < 200) :
    0 ≤ tm / P ∧ tm / P < 200 ∧ nth cs (tm / P).toNat = used P S tm := by
  have q0 : 0 ≤ tm / P := Int.ediv_nonneg h0 (by omega)
  have q1 : tm / P ≤ tm := Int.ediv_le_self P h0
  refine ⟨q0, by omega, ?_⟩
  rw [h.2 _ (by omega)]
  refine used_same S ?_
  rw [div_mul_same hP, Int.toNat_of_nonneg q0]
theorem CntOK.snoc {P tm : Int} {S : List Spd} {cs : List Int} (h : CntOK P S cs) (hP : 1 ≤ P) (h0 : 0 ≤ tm) (h1 : tm < 200) :
    CntOK P (S ++ [(tm, 1)]) (cs.set (tm / P).toNat (used P S tm + 1)) := by
  obtain ⟨q0, q1, q2⟩ := h.at_ hP h0 h1
  refine ⟨by simp [h.1], fun p hp => ?_⟩
  have hs : used P (S ++ [((tm, 1) : Spd)]) ((p : Int) * P) = used P S ((p : Int) * P) + addT (perT P ((p : Int) * P)) (tm, 1) := sumT_snoc _ _ _
  rw [hs]
  by_cases e : (tm / P).toNat = p
  · subst e
    rw [nth_set_same _ _ _ (by rw [h.1]; omega)]
    have hsame : tm / P = ((tm / P).toNat : Int) * P / P := by rw [div_mul_same hP, Int.toNat_of_nonneg q0]
    rw [used_same S hsame, addT_yes (by unfold perT; exact decide_eq_true hsame)]
  · rw [nth_set_other _ _ _ _ e, h.2 p hp, addT_no, Int.add_zero]
    unfold perT
    refine decide_eq_false ?_
    dsimp only
    rw [div_mul_same hP]; omega
/-- What the loop keeps of the budget. -/
structure SpI (P Am tm : Int) (n : Nat) (S : List Spd) (cs : List Int) : Prop where
  p : 1 ≤ P ∧ P ≤ 6
  a : 0 ≤ Am ∧ Am ≤ 3
  tm0 : 0 ≤ tm
  tm1 : tm + 2 * n ≤ 40
  len : S.length + n ≤ 20
  made : Made P Am S tm
  cnt : CntOK P S cs
theorem SpI.time {P Am tm tm' : Int} {n : Nat} {S : List Spd} {cs : List Int} (h : SpI P Am tm (n + 1) S cs) (h0 : tm ≤ tm') (h1 : tm' ≤ tm + 2) : SpI P Am tm' n S cs :=
  ⟨h.p, h.a, by have := h.tm0; omega, by have := h.tm1; omega, by have := h.len; omega, h.made.later h0, h.cnt⟩
theorem SpI.err {P Am tm : Int} {n : Nat} {S : List Spd} {cs : List Int} (h : SpI P Am tm n S cs) :
    (used P S tm < Am ∧ spE P Am S tm 1 = 0) ∨ (¬ used P S tm < Am ∧ spE P Am S tm 1 = 56) := by
  have hB : BudOK P Am S := h.made.ok ⟨h.p.1, by have := h.p.2; omega⟩ ⟨h.a.1, by have := h.a.2; omega⟩ (by have := h.len; omega)
  have hT : TimeOK S tm := ⟨h.tm0, by have := h.tm1; omega, fun h0 => h.made.last _ (by omega)⟩
  have hl : leftV P Am S tm = Am - used P S tm := leftV_pos (by have := h.tm0; omega)
  by_cases hu : used P S tm < Am
  · exact .inl ⟨hu, (spE_good hB hT (by decide) (by rw [hl]; omega) (by have := h.len; omega)).symm⟩
  · exact .inr ⟨hu, (spE_left hB hT (by decide) (by rw [hl]; omega)).symm⟩
theorem SpI.snoc {P Am tm : Int} {n : Nat} {S : List Spd} {cs : List Int} (h : SpI P Am tm n S cs) (hl : S.length + n + 1 ≤ 20) (hu : used P S tm < Am) : SpI P Am tm n (S ++ [(tm, 1)]) (cs.set (tm / P).toNat (used P S tm + 1)) :=
  ⟨h.p, h.a, h.tm0, h.tm1, by simp; omega, h.made.snoc ⟨h.tm0, by have := h.tm1; omega⟩ (by decide) (by omega), h.cnt.snoc h.p.1 h.tm0 (by have := h.tm1; omega)⟩
theorem used_small {P Am tm : Int} {n : Nat} {S : List Spd} {cs : List Int} (h : SpI P Am tm n S cs) : 0 ≤ used P S tm ∧ used P S tm ≤ 30000000000 := by
  have hr := sumK_range (S := S) (fun k hk => by have := (h.made.rows k hk).2.2.2; omega) (perT P tm) S.length (Nat.le_refl _)
  have hl := h.len
  have e : used P S tm = sumK (perT P tm) S S.length := rfl
  rw [e]; omega
theorem good312 : Good 3 1 2 := by unfold Good; omega
theorem total312 : totalW 3 1 2 = 24 := by decide +kernel
theorem pbok312 {x y : Int} (hx : 0 ≤ x ∧ x < 24) (hy : 0 ≤ y ∧ y < 24) : PbOK 3 1 2 [0, 2] [x, y] := by
  refine ⟨by decide, rfl, fun k hk => ?_⟩
  rw [total312]
  have : k = 0 ∨ k = 1 := by simp at hk; omega
  rcases this with rfl | rfl
  · show inI x 0 23 = true
    unfold inI; simp; omega
  · show inI y 0 23 = true
    unfold inI; simp; omega
theorem draw312 : ∀ c : Fin 4, ∀ u : Fin 24, 0 ≤ drawV 3 1 2 (c.val : Int) (u.val : Int) ∧ drawV 3 1 2 (c.val : Int) (u.val : Int) ≤ 3 := by decide +kernel
theorem draw312' {c u : Int} (hc : 0 ≤ c ∧ c ≤ 3) (hu : 0 ≤ u ∧ u < 24) : 0 ≤ drawV 3 1 2 c u ∧ drawV 3 1 2 c u ≤ 3 := by
  have := draw312 ⟨c.toNat, by omega⟩ ⟨u.toNat, by omega⟩
  simp only [Int.toNat_of_nonneg hc.1, Int.toNat_of_nonneg hu.1] at this
  exact this
/-- The lines of such a table. -/
def ln2 (L : List Spd) (x y : Int) : List Spd := [(0, drawV 3 1 2 (clC 3 L 0) x), (2, drawV 3 1 2 (clC 3 L 2) y)]
theorem lnK2 (L : List Spd) (x y : Int) : lnK 3 1 2 L [0, 2] [x, y] ([0, 2] : List Int).length = ln2 L x y := rfl
theorem zok2 (L : List Spd) {x y : Int} (hx : 0 ≤ x ∧ x < 24) (hy : 0 ≤ y ∧ y < 24) : ZOK 3 (ln2 L x y) := fun k hk => by
  have : k = 0 ∨ k = 1 := by simp [ln2] at hk; omega
  rcases this with rfl | rfl
  · exact draw312' (clC_range L 0 (by decide)) hx
  · exact draw312' (clC_range L 2 (by decide)) hy
theorem wg2_pos (L : List Spd) {x y : Int} (hx : 0 ≤ x ∧ x < 24) (hy : 0 ≤ y ∧ y < 24) : ∀ k, k < 2 → 1 ≤ nth ((ln2 L x y).map (wg1 3 1 2 L)) k := fun k hk => by
  have : k = 0 ∨ k = 1 := by omega
  rcases this with rfl | rfl
  · exact (weightW_rangeE good312 (clC_range L 0 (by decide)) (draw312' (clC_range L 0 (by decide)) hx)).1
  · exact (weightW_rangeE good312 (clC_range L 2 (by decide)) (draw312' (clC_range L 2 (by decide)) hy)).1
/-- The two weights of such a table. -/
theorem weigh2 (C : Option Addr) (L : List Spd) (c : Nat) (tm : Int) (U : Option Addr) (x y : Int) (cu : Nat) (w : World) (hx : 0 ≤ x ∧ x < 24) (hy : 0 ≤ y ∧ y < 24) (hL : ElAt elC w C L) (hl : L.length ≤ 100000) (hU : ElAt elL w U (ln2 L x y)) :
    Calls Try.prog 27 #[nz 3 1 2, .slice C L.length c, .agg #[.int .i64 tm, .slice U 2 cu]] w (fun e w' => ∃ b off c' y0 y1, e = .returned (.tuple #[.slice (some ⟨b, off, none⟩) 2 c', .int .i64 0]) ∧ b < w'.heap.size ∧ w'.cell? ⟨b, off, none⟩ = some (.int .i64 y0) ∧ w'.cell? ⟨b, off + 1, none⟩ = some (.int .i64 y1) ∧ 1 ≤ y0 ∧ 1 ≤ y1 ∧ Below w.heap.size w w') := by
  have hu : (ln2 L x y).length = 2 := rfl
  have hz := zok2 L hx hy
  have hp := wg2_pos L hx hy
  have h := weigh_any 3 1 2 C L c tm U (ln2 L x y) cu w hL hl hU (by rw [hu]; decide)
  rw [hu] at h
  refine h.mono ?_
  rintro e w' ⟨u, rfl, hown, hb⟩
  have e1 : wgE 3 1 2 (ln2 L x y) = 0 := by unfold wgE; rw [if_pos good312, if_pos hz]
  have e2 : wgL 3 1 2 L (ln2 L x y) = (ln2 L x y).map (wg1 3 1 2 L) := by unfold wgL; rw [if_pos ⟨good312, hz⟩]
  rw [e1]
  unfold IntOwn at hown
  rw [e2] at hown
  have hlen : ((ln2 L x y).map (wg1 3 1 2 L)).length = 2 := by rw [List.length_map, hu]
  obtain ⟨A', c', rfl, hI⟩ := IntsAt.of_own hown rfl
  obtain ⟨b, off, rfl, hlt, hc0⟩ := hI 0 (by rw [hlen]; decide)
  obtain ⟨b', off', e', -, hc1⟩ := hI 1 (by rw [hlen]; decide)
  injection e' with e'
  injection e' with e1' e2' e3'
  subst e1'; subst e2'
  exact ⟨b, off, c', _, _, by rw [hlen], hlt, hc0, hc1, hp 0 (by decide), hp 1 (by decide), hb⟩
/-- Publish, with such a noise and two draws. -/
theorem publish2 (P Am : Int) (Q : Option Addr) (S : List Spd) (cq : Nat) (tm : Int) (C : Option Addr) (L : List Spd) (c : Nat) (X Y : Option Addr) (x y : Int) (w : World) (hx : 0 ≤ x ∧ x < 24) (hy : 0 ≤ y ∧ y < 24)
    (hS : SpAt w Q S) (hQ : ∀ a, Q = some a → a.spot = none ∨ S.length = 0) (hN : Q = none → S.length = 0 ∧ cq = 0) (hl : S.length ≤ 100000) (hL : ElAt elC w C L) (ll : L.length ≤ 100000) (hX : IntsAt w X [0, 2]) (hY : IntsAt w Y [x, y]) (n : Nat) (cs : List Int) (hI : SpI P Am tm n S cs) :
    Calls Try.prog 26 #[nz 3 1 2, .agg #[.int .i64 P, .int .i64 Am, .slice Q S.length cq], .int .i64 tm, .slice C L.length c, .slice X 2 2, .slice Y 2 2] w
      (fun e w' => (used P S tm < Am ∧ PubP P Am tm (ln2 L x y) (S ++ [(tm, 1)]) 0 w e w') ∨ (¬ used P S tm < Am ∧ PubP P Am 0 [] S 56 w e w')) := by
  have h := publish_any 3 1 2 P Am Q S cq tm C L c X [0, 2] 2 Y [x, y] 2 w hS hQ hN hl hL ll hX (by simp) hY (by simp)
  refine h.mono ?_
  intro e w' hr
  unfold PubQ at hr
  rcases hI.err with ⟨hu, he⟩ | ⟨hu, he⟩
  · have hE : pbE 3 1 2 P Am S tm [0, 2] [x, y] = 0 := by rw [pbE_spend good312 (pbok312 hx hy)]; exact he
    unfold pbT pbL pbS at hr
    rw [hE, if_pos rfl, if_pos rfl, if_pos rfl] at hr
    exact .inl ⟨hu, hr⟩
  · have hE : pbE 3 1 2 P Am S tm [0, 2] [x, y] = 56 := by rw [pbE_spend good312 (pbok312 hx hy)]; exact he
    unfold pbT pbL pbS at hr
    rw [hE, if_neg (by decide), if_neg (by decide), if_neg (by decide)] at hr
    exact .inr ⟨hu, hr⟩
end Go.Proofs.Ytmnkgfimdlhhiaa
namespace Go.Proofs.Ytmnkgfimdlhhiaa
open Go.RowKit

def upd (L : Nat → Bool) (i : Nat) : Nat → Bool := fun k => cond (Nat.beq k i) true (L k)
def updV (V : Nat → Value) (i : Nat) (v : Value) : Nat → Value := fun k => cond (Nat.beq k i) v (V k)
theorem upd_same (L : Nat → Bool) (i : Nat) : upd L i i = true := by simp [upd]
theorem upd_other (L : Nat → Bool) {i k : Nat} (h : k ≠ i) : upd L i k = L k := by
  unfold upd
  have : Nat.beq k i = false := by
    cases hb : Nat.beq k i
    · rfl
    · exact absurd (Nat.eq_of_beq_eq_true hb) h
  rw [this]; rfl
theorem updV_same (V : Nat → Value) (i : Nat) (v : Value) : updV V i v i = v := by simp [updV]
theorem updV_other (V : Nat → Value) {i k : Nat} (v : Value) (h : k ≠ i) : updV V i v k = V k := by
  unfold updV
  have : Nat.beq k i = false := by
    cases hb : Nat.beq k i
    · rfl
    · exact absurd (Nat.eq_of_beq_eq_true hb) h
  rw [this]; rfl

/-- Where each operation's value lies, and that nothing else has turned. -/
structure RJ (ops : Array Oper) (a0 : Act) (V : Nat → Value) (L : Nat → Bool) (a : Act) : Prop where
  defers : a.defers = a0.defers
  size : a.tmps.size = a0.tmps.size
  val : ∀ (j : Nat) (o : Oper), ops[j]? = some o → ∀ d, o.dst = some d → L j = true → a.tmps[d]?.getD undef = V j
  same : ∀ k, (ops.all fun o => o.dst != some k) = true → a.tmps[k]? = a0.tmps[k]?
/-- Each operation's slot is its own, and lies in the frame. -/
def dstsB (ops : Array Oper) (n : Nat) : Bool :=
  (List.range ops.size).all fun i => match ops[i]? with
    | none => true
    | some o => match o.dst with
      | none => true
      | some d => decide (d < n) && (List.range ops.size).all fun j => j == i || match ops[j]? with
        | none => true
        | some p => p.dst != some d
theorem dstsB_spec {ops : Array Oper} {n : Nat} (h : dstsB ops n = true) {i : Nat} {o : Oper} (hi : ops[i]? = some o) {d : Nat} (hd : o.dst = some d) : d < n ∧ ∀ j p, j ≠ i → ops[j]? = some p → p.dst ≠ some d := by
  unfold dstsB at h
  rw [List.all_eq_true] at h
  have hil : i < ops.size := (Array.getElem?_eq_some_iff.1 hi).1
  have h1 := h i (List.mem_range.2 hil)
  rw [hi] at h1
  simp only [hd, Bool.and_eq_true, decide_eq_true_eq, List.all_eq_true, List.mem_range, Bool.or_eq_true, beq_iff_eq] at h1
  refine ⟨h1.1, fun j p hj hp => ?_⟩
  have hjl : j < ops.size := (Array.getElem?_eq_some_iff.1 hp).1
  have h2 := h1.2 j hjl
  rw [hp] at h2
  rcases h2 with h2 | h2
  · exact absurd h2 hj
  · simpa using h2
theorem RJ.step {ops : Array Oper} {a0 : Act} {V : Nat → Value} {L : Nat → Bool} {a : Act} (h : RJ ops a0 V L a) (hB : dstsB ops a0.tmps.size = true) {i : Nat} {o : Oper} (hi : ops[i]? = some o) (v : Value) : RJ ops a0 (updV V i v) (upd L i) (a.put o.dst v) := by
  cases hd : o.dst with
  | none =>
    refine ⟨h.defers, h.size, fun j p hj d hpd hL => ?_, h.same⟩
    by_cases e : j = i
    · subst e
      rw [hi] at hj; injection hj with hj; subst hj
      rw [hd] at hpd; cases hpd
    · rw [updV_other _ _ e]; rw [upd_other _ e] at hL; exact h.val j p hj d hpd hL
  | some d0 =>
    obtain ⟨hlt, hne⟩ := dstsB_spec hB hi hd
    refine ⟨h.defers, by simpa [Act.put] using h.size, fun j p hj d hpd hL => ?_, fun k hk => ?_⟩
    · by_cases e : j = i
      · subst e
        rw [hi] at hj; injection hj with hj; subst hj
        rw [hd] at hpd; injection hpd with hpd; subst hpd
        rw [updV_same]
        have : d0 < a.tmps.size := by rw [h.size]; exact hlt
        simp [Act.put, this]
      · have hdd : d0 ≠ d := fun e2 => hne j p e hj (by rw [e2]; exact hpd)
        rw [updV_other _ _ e]; rw [upd_other _ e] at hL
        have := h.val j p hj d hpd hL
        simp only [Act.put, Array.getElem?_setIfInBounds_ne hdd]; exact this
    · have hdk : d0 ≠ k := fun e => by
        rw [Array.all_eq_true_iff_forall_mem] at hk
        have := hk o (Array.mem_of_getElem? hi)
        simp [hd, e] at this
      simp only [Act.put, Array.getElem?_setIfInBounds_ne hdk]; exact h.same k hk

/-- The operations that must come before one. -/
def preL (o : Oper) : List Nat := (o.after.toList.filter fun e => Region.binds .any e).map (·.on)
def lowB (ops : Array Oper) : Bool := (List.range ops.size).all fun i => match ops[i]? with
  | none => true
  | some o => (preL o).all fun j => decide (j < i)
def JSteps (P : Program) (ops : Array Oper) (Q : Exit → Act → World → Prop) (a0 : Act) (I : (Nat → Value) → (Nat → Bool) → World → Prop) : Nat → List Oper → Prop
  | _, [] => True
  | i, o :: l => (∀ V L a w, L i = false → (∀ j ∈ preL o, L j = true) → RJ ops a0 V L a → I V L w → ∀ K : Act → World → Prop, (∀ v w', I (updV V i v) (upd L i) w' → K (a.put o.dst v) w') →
      if Region.wanted o (yielded ops a.tmps) = true then Oper.wp P o a w K Q else K (a.put o.dst undef) w) ∧ JSteps P ops Q a0 I (i + 1) l
theorem JSteps.at_ {P : Program} {ops : Array Oper} {Q : Exit → Act → World → Prop} {a0 : Act} {I : (Nat → Value) → (Nat → Bool) → World → Prop} : ∀ (l : List Oper) (i : Nat), JSteps P ops Q a0 I i l → ∀ (j : Nat) (o : Oper), l[j]? = some o → ∀ V L a w, L (i + j) = false → (∀ k ∈ preL o, L k = true) → RJ ops a0 V L a → I V L w → ∀ K : Act → World → Prop, (∀ v w', I (updV V (i + j) v) (upd L (i + j)) w' → K (a.put o.dst v) w') →
      if Region.wanted o (yielded ops a.tmps) = true then Oper.wp P o a w K Q else K (a.put o.dst undef) w
  | [], i, _, j, o, h => by simp at h
  | p :: l, i, hs, 0, o, h => by
    simp only [List.getElem?_cons_zero, Option.some.injEq] at h
    subst h; exact hs.1
  | p :: l, i, hs, j + 1, o, h => by
    rw [List.getElem?_cons_succ] at h
    have := JSteps.at_ l (i + 1) hs.2 j o h
    rw [show i + 1 + j = i + (j + 1) by omega] at this; exact this
theorem count_set_lt {l : List Bool} {i : Nat} (h : i < l.length) (hf : l[i] = false) : (l.set i true).count false + 1 = l.count false := by
  induction l generalizing i with
  | nil => simp at h
  | cons b l ih =>
    cases i with
    | zero =>
      simp only [List.getElem_cons_zero] at hf
      subst hf
      simp
    | succ i =>
      simp only [List.getElem_cons_succ] at hf
      have := ih (by simpa using h) hf
      simp only [List.set_cons_succ, List.count_cons]
      omega
theorem wp_region_J {P : Program} {ops : Array Oper} {Q : Exit → Act → World → Prop} {id : Nat} {a0 : Act} {w0 : World} (I : (Nat → Value) → (Nat → Bool) → World → Prop)
    (hm : P.follows .mixedOrders = true) (hlow : lowB ops = true) (hB : dstsB ops a0.tmps.size = true)
    (h0 : ∀ V, I V (fun _ => false) w0.drew) (hs : JSteps P ops Q a0 I 0 ops.toList)
    (h1 : ∀ V L a w, (∀ i, i < ops.size → L i = true) → RJ ops a0 V L a → I V L w → Q .normal a w) : (Code.region id ops true).wp P Q a0 w0 := by
  refine wp_region_any hm ?_
  have key : ∀ (fuel : Nat) (listed : Array Bool) (V : Nat → Value) (L : Nat → Bool) (a : Act) (w : World), listed.size = ops.size → listed.toList.count false ≤ fuel → (∀ i, i < ops.size → L i = listed.getD i false) → RJ ops a0 V L a → I V L w → wpAny P .any ops Q fuel listed a w := by
    intro fuel
    induction fuel with
    | zero =>
      intro listed V L a w hsz hc hL hR hI
      have hall : ∀ i, i < ops.size → L i = true := fun i hi => by
        rw [hL i hi]
        have hil : i < listed.size := by omega
        have : listed[i] ≠ false := fun e => by
          have hm : false ∈ listed.toList := by rw [← e]; exact Array.mem_toList_iff.2 (Array.getElem_mem hil)
          have := List.count_pos_iff.2 hm
          omega
        simp [hil]; simpa using this
      refine ⟨?_, h1 V L a w hall hR hI⟩
      rw [List.eq_nil_iff_forall_not_mem]
      intro i hi
      obtain ⟨hf, o, ho, -⟩ := mem_ready.1 hi
      have hil := (Array.getElem?_eq_some_iff.1 ho).1
      have := hall i hil
      rw [hL i hil] at this
      have hil2 : i < listed.size := by omega
      simp [hil2] at hf this
      rw [hf] at this; cases this
    | succ fuel ih =>
      intro listed V L a w hsz hc hL hR hI
      refine ⟨fun hnil => ?_, fun i hi => ?_⟩
      · have hall : ∀ i, i < ops.size → L i = true := by
          intro i
          induction i using Nat.strongRecOn with
          | _ i IH =>
            intro hi
            cases hLi : L i with
            | true => rfl
            | false =>
              exfalso
              have hil : i < listed.size := by omega
              have hlf : listed[i] = false := by
                have := hL i hi
                rw [hLi] at this; simp [hil] at this; exact this
              have : i ∈ Region.ready .any ops listed := by
                refine mem_ready.2 ⟨by simp [hil, hlf], ops[i], Array.getElem?_eq_getElem hi, fun e he hb => ?_⟩
                have hlt : e.on < i := by
                  unfold lowB at hlow
                  rw [List.all_eq_true] at hlow
                  have h2 := hlow i (List.mem_range.2 hi)
                  rw [Array.getElem?_eq_getElem hi] at h2
                  simp only [List.all_eq_true] at h2
                  have := h2 e.on (List.mem_map.2 ⟨e, List.mem_filter.2 ⟨Array.mem_toList_iff.2 he, hb⟩, rfl⟩)
                  simpa using this
                have := IH e.on hlt (by omega)
                rw [hL e.on (by omega)] at this; exact this
              rw [hnil] at this; cases this
        exact h1 V L a w hall hR hI
      · obtain ⟨hf, o, ho, hpre⟩ := mem_ready.1 hi
        have hil := (Array.getElem?_eq_some_iff.1 ho).1
        have hil2 : i < listed.size := by omega
        have hlf : listed[i] = false := by simpa [hil2] using hf
        refine wpOp_step ho fun K hK => ?_
        have hst := JSteps.at_ ops.toList 0 hs i o (by rw [Array.getElem?_toList]; exact ho) V L a w (by rw [Nat.zero_add, hL i hil, Array.getD_eq_getD_getElem?, Array.getElem?_eq_getElem hil2, hlf]; rfl) (fun j hj => ?_) hR hI K (fun v w' hI' => ?_)
        · exact hst
        · obtain ⟨e, he, rfl⟩ := List.mem_map.1 hj
          obtain ⟨he1, he2⟩ := List.mem_filter.1 he
          have := hpre e (Array.mem_toList_iff.1 he1) he2
          have hjl : e.on < listed.size := by
            rcases Nat.lt_or_ge e.on listed.size with h' | h'
            · exact h'
            · simp [Array.getElem?_eq_none h'] at this
          rw [hL e.on (by omega)]; exact this
        · rw [Nat.zero_add] at hI'
          refine hK _ _ (ih (listed.setIfInBounds i true) (updV V i v) (upd L i) _ w' (by simpa using hsz) ?_ (fun k hk => ?_) (hR.step hB ho v) hI')
          · rw [Array.toList_setIfInBounds]
            have := count_set_lt (l := listed.toList) (i := i) (by simpa using hil2) (by simpa using hlf)
            omega
          · by_cases e : k = i
            · subst e; rw [upd_same]; simp [hil2]
            · rw [upd_other _ e, hL k hk]
              simp [Array.getElem?_setIfInBounds_ne (Ne.symm e)]
  refine key ops.size (Array.replicate ops.size false) (fun _ => undef) (fun _ => false) a0 w0.drew (by simp) (by simp) (fun i hi => by simp [hi]) ⟨rfl, rfl, fun j o hj d hd hL => (by cases hL), fun k _ => rfl⟩ (h0 _)

/-! ### The frame behind the region -/
def putL (a : Act) : List (Nat × Value) → Act
  | [] => a
  | e :: l => putL (a.put (some e.1) e.2) l
def finL (V : Nat → Value) : Nat → List Oper → List (Nat × Value)
  | _, [] => []
  | i, o :: l => match o.dst with
    | none => finL V (i + 1) l
    | some d => (d, V i) :: finL V (i + 1) l
theorem putL_defers : ∀ (l : List (Nat × Value)) (a : Act), (putL a l).defers = a.defers
  | [], _ => rfl
  | e :: l, a => by rw [putL, putL_defers l]; rfl
theorem putL_size : ∀ (l : List (Nat × Value)) (a : Act), (putL a l).tmps.size = a.tmps.size
  | [], _ => rfl
  | e :: l, a => by rw [putL, putL_size l]; simp [Act.put]
theorem putL_none (V : Nat → Value) (k : Nat) : ∀ (l : List Oper) (i : Nat) (a : Act), (∀ o ∈ l, o.dst ≠ some k) → (putL a (finL V i l)).tmps[k]? = a.tmps[k]?
  | [], _, _, _ => rfl
  | o :: l, i, a, h => by
    have h1 := h o (by simp)
    have h2 : ∀ p ∈ l, p.dst ≠ some k := fun p hp => h p (by simp [hp])
    cases hd : o.dst with
    | none => simp only [finL, hd]; exact putL_none V k l (i + 1) a h2
    | some d =>
      have hdk : d ≠ k := fun e => h1 (by rw [hd, e])
      simp only [finL, hd, putL]
      rw [putL_none V k l (i + 1) _ h2]
      simp only [Act.put, Array.getElem?_setIfInBounds_ne hdk]
theorem putL_some (V : Nat → Value) (k : Nat) : ∀ (l : List Oper) (i : Nat) (a : Act) (j : Nat) (o : Oper), l[j]? = some o → o.dst = some k → k < a.tmps.size → (∀ j' p, j' ≠ j → l[j']? = some p → p.dst ≠ some k) → (putL a (finL V i l)).tmps[k]? = some (V (i + j))
  | [], _, _, j, o, h, _, _, _ => by simp at h
  | p :: l, i, a, 0, o, h, hd, hk, hne => by
    simp only [List.getElem?_cons_zero, Option.some.injEq] at h
    subst h
    simp only [finL, hd, putL]
    rw [putL_none V k l (i + 1) _ (fun q hq => by
      obtain ⟨j', hj', hq'⟩ := List.getElem_of_mem hq
      exact hne (j' + 1) q (by omega) (by rw [List.getElem?_cons_succ, ← hq']; exact List.getElem?_eq_getElem hj'))]
    simp [Act.put, hk]
  | p :: l, i, a, j + 1, o, h, hd, hk, hne => by
    rw [List.getElem?_cons_succ] at h
    have hne' : ∀ j' q, j' ≠ j → l[j']? = some q → q.dst ≠ some k := fun j' q hj hq => hne (j' + 1) q (by omega) (by rw [List.getElem?_cons_succ]; exact hq)
    rw [show i + (j + 1) = (i + 1) + j by omega]
    cases hp : p.dst with
    | none => simp only [finL, hp]; exact putL_some V k l (i + 1) a j o h hd hk hne'
    | some d => simp only [finL, hp, putL]; exact putL_some V k l (i + 1) _ j o h hd (by simpa [Act.put] using hk) hne'
theorem RJ.fin {ops : Array Oper} {a0 : Act} {V : Nat → Value} {L : Nat → Bool} {a : Act} (h : RJ ops a0 V L a) (hB : dstsB ops a0.tmps.size = true) (hL : ∀ i, i < ops.size → L i = true) : a = putL a0 (finL V 0 ops.toList) := by
  have e1 : a.defers = (putL a0 (finL V 0 ops.toList)).defers := by rw [putL_defers]; exact h.defers
  have e2 : a.tmps = (putL a0 (finL V 0 ops.toList)).tmps := by
    refine Array.ext_getElem? fun k => ?_
    by_cases hk : (ops.all fun o => o.dst != some k) = true
    · rw [h.same k hk, putL_none]
      intro o ho
      rw [Array.all_eq_true_iff_forall_mem] at hk
      have := hk o (Array.mem_toList_iff.1 ho)
      simpa using this
    · have hex : ∃ (i : Nat) (o : Oper), ops[i]? = some o ∧ o.dst = some k := by
        refine Classical.byContradiction fun hn => hk ?_
        rw [Array.all_eq_true_iff_forall_mem]
        intro o ho
        obtain ⟨i, hi, he⟩ := Array.getElem_of_mem ho
        have : ¬ o.dst = some k := fun e => hn ⟨i, o, by rw [← he]; exact Array.getElem?_eq_getElem hi, e⟩
        simpa using this
      obtain ⟨i, o, hi, hd⟩ := hex
      obtain ⟨hlt, hne⟩ := dstsB_spec hB hi hd
      have hil := (Array.getElem?_eq_some_iff.1 hi).1
      rw [putL_some V k ops.toList 0 a0 i o (by rw [Array.getElem?_toList]; exact hi) hd hlt (fun j' p hj hp => hne j' p hj (by rw [Array.getElem?_toList] at hp; exact hp)), Nat.zero_add]
      have hv := h.val i o hi k hd (hL i hil)
      have hka : k < a.tmps.size := by rw [h.size]; exact hlt
      rw [Array.getElem?_eq_getElem hka] at hv ⊢
      simpa using hv
  cases a
  simp only at e1 e2
  subst e1; subst e2
  rfl
/-- The region, told by its steps; behind it the frame is written out. -/
theorem wp_region_J2 {P : Program} {l : List Oper} {Q : Exit → Act → World → Prop} {id : Nat} {a0 : Act} {w0 : World} (I : (Nat → Value) → (Nat → Bool) → World → Prop)
    (hm : P.follows .mixedOrders = true) (hlow : lowB l.toArray = true) (hB : dstsB l.toArray a0.tmps.size = true)
    (h0 : ∀ V, I V (fun _ => false) w0.drew) (hs : JSteps P l.toArray Q a0 I 0 l)
    (h1 : ∀ V L w, (∀ i, i < l.length → L i = true) → I V L w → Q .normal (putL a0 (finL V 0 l)) w) : (Code.region id l.toArray true).wp P Q a0 w0 := by
  refine wp_region_J I hm hlow hB h0 hs fun V L a w hL hR hI => ?_
  rw [hR.fin hB hL]
  exact h1 V L w (fun i hi => hL i (by simpa using hi)) hI
end Go.Proofs.Ytmnkgfimdlhhiaa
namespace Go.Proofs.Ytmnkgfimdlhhiaa
open Go.RowKit

section
variable {P : Program} {ops : Array Oper} {o : Oper} {a : Act} {K : Act → World → Prop} {Q : Exit → Act → World → Prop} {E : Prop} {w : World}
theorem J_val (hgd : o.guard = none) {v : Value} {w' : World} (he : (execOp a.eval o).run P w = .ok (.value v) w') (hK : K (a.put o.dst v) w') :
    if Region.wanted o (yielded ops a.tmps) = true then Oper.wp P o a w K Q else E := by
  rw [if_pos (by simp [Region.wanted, hgd])]
  unfold Oper.wp
  rw [he]; exact hK
theorem J_skip (hgd : o.guard = none) {w' : World} (he : (execOp a.eval o).run P w = .ok .skip w') (hK : K (a.put o.dst undef) w') :
    if Region.wanted o (yielded ops a.tmps) = true then Oper.wp P o a w K Q else E := by
  rw [if_pos (by simp [Region.wanted, hgd])]
  unfold Oper.wp
  rw [he]; exact hK
theorem J_move (hgd : o.guard = none) (x : Operand) (ho : o.op = .move x) (hK : K (a.put o.dst (a.eval x)) w) :
    if Region.wanted o (yielded ops a.tmps) = true then Oper.wp P o a w K Q else E :=
  J_val hgd (w' := w) (v := a.eval x) (by unfold execOp; rw [ho]; rfl) hK
theorem J_assign (hgd : o.guard = none) (x : Operand) (ho : o.op = .assign x) (hK : K (a.put o.dst (a.eval x)) w) :
    if Region.wanted o (yielded ops a.tmps) = true then Oper.wp P o a w K Q else E :=
  J_val hgd (w' := w) (v := a.eval x) (by unfold execOp; rw [ho]; rfl) hK
theorem run_val {s : Sem Value} {v : Value} {w' : World} (h : s.run P w = .ok v w') : (do pure (Next.value (← s)) : Sem Next).run P w = .ok (.value v) w' := by
  simp [h]
theorem run_skip {s : Sem Unit} {w' : World} (h : s.run P w = .ok () w') : (do s; pure Next.skip : Sem Next).run P w = .ok .skip w' := by
  simp [h]
theorem J_load (hgd : o.guard = none) (t : TypeId) (x : Operand) (ho : o.op = .load t x) {v : Value} (h : (Instr.loadAt t (a.eval x)).run P w = .ok v w) (hK : K (a.put o.dst v) w) :
    if Region.wanted o (yielded ops a.tmps) = true then Oper.wp P o a w K Q else E :=
  J_val hgd (by unfold execOp; rw [ho]; exact run_val h) hK
theorem J_alloc (hgd : o.guard = none) (t : TypeId) (ho : o.op = .alloc t) {v : Value} {w' : World} (h : (Instr.alloc t true (.tuple #[])).run P w = .ok v w') (hK : K (a.put o.dst v) w') :
    if Region.wanted o (yielded ops a.tmps) = true then Oper.wp P o a w K Q else E :=
  J_val hgd (by unfold execOp; rw [ho]; exact run_val h) hK
theorem J_extract (hgd : o.guard = none) (x : Operand) (i : Nat) (ho : o.op = .extract x i) {vs : Array Value} {v : Value} (hx : a.eval x = .tuple vs) (hv : vs[i]? = some v) (hK : K (a.put o.dst v) w) :
    if Region.wanted o (yielded ops a.tmps) = true then Oper.wp P o a w K Q else E :=
  J_val hgd (by unfold execOp; rw [ho]; exact run_val (by rw [hx]; simp [Instr.extract, hv])) hK
theorem J_store (hgd : o.guard = none) (t : TypeId) (x y : Operand) (ho : o.op = .store t x y) {w' : World} (h : (Instr.storeAt t (a.eval x) (a.eval y)).run P w = .ok () w') (hK : K (a.put o.dst undef) w') :
    if Region.wanted o (yielded ops a.tmps) = true then Oper.wp P o a w K Q else E :=
  J_skip hgd (by unfold execOp; rw [ho]; exact run_skip h) hK
theorem J_call (hgd : o.guard = none) (f : FuncId) (aa : Array Operand) (ts : Array TypeId)
    (ho : o.op = .call { callee := .value (.func f), args := aa, argTypes := ts }) (hen : ∀ args w, (callFunc f args).run P w = .ok (.enter f args) w) {vs : Array Value} (hv : aa.map a.eval = vs)
    {R : Ending → World → Prop} (hc : Calls P f vs w R) (hK : ∀ e w', R e w' → ∃ v, e = .returned v ∧ K (a.put o.dst v) w') :
    if Region.wanted o (yielded ops a.tmps) = true then Oper.wp P o a w K Q else E := by
  rw [if_pos (by simp [Region.wanted, hgd])]
  have hcc : (execOp a.eval o).run P w = .ok (.enter f vs) w := by
    rw [Go.Conc.execOp_call_func ho, hen, hv]
  unfold Oper.wp
  rw [hcc]
  refine Calls.mono hc ?_
  intro e w' hr
  obtain ⟨v, rfl, hk⟩ := hK e w' hr
  exact hk
end
theorem JSteps.cons {P : Program} {ops : Array Oper} {Q : Exit → Act → World → Prop} {a0 : Act} {I : (Nat → Value) → (Nat → Bool) → World → Prop} {i : Nat} {o : Oper} {l : List Oper}
    (h : ∀ V L a w, L i = false → (∀ j ∈ preL o, L j = true) → RJ ops a0 V L a → I V L w → ∀ K : Act → World → Prop, (∀ v w', I (updV V i v) (upd L i) w' → K (a.put o.dst v) w') →
      if Region.wanted o (yielded ops a.tmps) = true then Oper.wp P o a w K Q else K (a.put o.dst undef) w) (hs : JSteps P ops Q a0 I (i + 1) l) : JSteps P ops Q a0 I i (o :: l) := ⟨h, hs⟩
/-- What a slot holds: what the operation that writes it gave. -/
theorem RJ.ev {ops : Array Oper} {a0 : Act} {V : Nat → Value} {L : Nat → Bool} {a : Act} (h : RJ ops a0 V L a) (j : Nat) {o : Oper} (hj : ops[j]? = some o) {d : Nat} (hd : o.dst = some d) (hL : L j = true) : a.eval (.tmp d) = V j := by
  show a.tmps.getD d undef = V j
  rw [Array.getD_eq_getD_getElem?]; exact h.val j o hj d hd hL
theorem RJ.old {ops : Array Oper} {a0 : Act} {V : Nat → Value} {L : Nat → Bool} {a : Act} (h : RJ ops a0 V L a) (k : Nat) (hk : (ops.all fun o => o.dst != some k) = true) : a.eval (.tmp k) = a0.eval (.tmp k) := by
  show a.tmps.getD k undef = a0.tmps.getD k undef
  rw [Array.getD_eq_getD_getElem?, Array.getD_eq_getD_getElem?, h.same k hk]
/-- A literal of numbers. -/
theorem J_lit2 {ops : Array Oper} {o : Oper} {a : Act} {K : Act → World → Prop} {Q : Exit → Act → World → Prop} {E : Prop} {w : World} (hgd : o.guard = none) (x y : Operand) (ho : o.op = .buildSlice 27 2 #[(0, x), (1, y)]) {m n : Int} (hx : a.eval x = .int .i64 m) (hy : a.eval y = .int .i64 n)
    (hK : K (a.put o.dst (.slice (some ⟨w.heap.size, 0, none⟩) 2 2)) (w.alloc (.cells #[.int .i64 m, .int .i64 n] 3))) :
    if Region.wanted o (yielded ops a.tmps) = true then Oper.wp Try.prog o a w K Q else E :=
  J_val hgd (by
    unfold execOp; rw [ho]
    refine run_val ?_
    simp only [List.map_toArray, List.map_cons, List.map_nil, hx, hy]
    go_simp) hK
end Go.Proofs.Ytmnkgfimdlhhiaa
namespace Go.Proofs.Ytmnkgfimdlhhiaa
open Go.RowKit

theorem ld_noise {w : World} {x : Nat} {T A B : Int} (h : NzCell w x T A B) : (Instr.loadAt 47 (.pointer (some ⟨x, 0, none⟩))).run Try.prog w = .ok (nz T A B) w := by
  have h0 := h.c0
  have h1 := h.c1
  have h2 := h.c2
  go_simp
theorem ld_bud {w : World} {x : Nat} {P A : Int} {v : Value} (h : BudCell w x P A v) : (Instr.loadAt 24 (.pointer (some ⟨x, 0, none⟩))).run Try.prog w = .ok (.agg #[.int .i64 P, .int .i64 A, v]) w := by
  have h0 := h.c0
  have h1 := h.c1
  have h2 := h.c2
  go_simp
theorem al_tab (w : World) : (Instr.alloc 52 true (.tuple #[])).run Try.prog w = .ok (.pointer (some ⟨w.heap.size, 0, none⟩)) (w.alloc (.cells #[.int .i64 0, .slice none 0 0] 52)) := by
  go_simp
theorem al_bud (w : World) : (Instr.alloc 24 true (.tuple #[])).run Try.prog w = .ok (.pointer (some ⟨w.heap.size, 0, none⟩)) (w.alloc (.cells #[.int .i64 0, .int .i64 0, .slice none 0 0] 24)) := by
  go_simp
theorem st_tab {w : World} {x : Nat} {tm tm' : Int} {u : Value} (h : TabCell w x tm u) (U : Option Addr) (n c : Nat) : (Instr.storeAt 52 (.pointer (some ⟨x, 0, none⟩)) (.agg #[.int .i64 tm', .slice U n c])).run Try.prog w = .ok () ((w.setCell ⟨x, 0, none⟩ (.int .i64 tm')).setCell ⟨x, 1, none⟩ (.slice U n c)) := by
  have h0 := h.c0
  have h1 := h.c1
  have f0 := h.frozen 0
  have f1 := h.frozen 1
  go_simp
theorem st_bud {w : World} {x : Nat} {P A P' A' : Int} {u : Value} (h : BudCell w x P A u) (U : Option Addr) (n c : Nat) : (Instr.storeAt 24 (.pointer (some ⟨x, 0, none⟩)) (.agg #[.int .i64 P', .int .i64 A', .slice U n c])).run Try.prog w = .ok () (((w.setCell ⟨x, 0, none⟩ (.int .i64 P')).setCell ⟨x, 1, none⟩ (.int .i64 A')).setCell ⟨x, 2, none⟩ (.slice U n c)) := by
  have h0 := h.c0
  have h1 := h.c1
  have h2 := h.c2
  have f0 := h.frozen 0
  have f1 := h.frozen 1
  have f2 := h.frozen 2
  go_simp

theorem own_keep {w w' : World} {base n : Nat} {ty : TypeId} {v : Value} {m : Nat} {cs : List Value} (h : w.ownsRow base ty n v m cs) (hk : ∀ k, v.ownBlock = some k → w'.heap[k]? = w.heap[k]?) : w'.ownsRow base ty n v m cs := by
  obtain ⟨h1, h2⟩ := h
  refine ⟨h1, ?_⟩
  rcases h2 with h2 | ⟨g, cap, cur, hv, hgb, hh, r⟩
  · exact .inl h2
  · exact .inr ⟨g, cap, cur, hv, hgb, (hk g (by rw [hv]; rfl)).trans hh, r⟩
theorem own_kep {X : Nat → Prop} {w w' : World} {base n : Nat} {ty : TypeId} {v : Value} {m : Nat} {cs : List Value} (h : w.ownsRow base ty n v m cs) (hk : Kep X w w') (hX : ∀ b, v.ownBlock = some b → ¬ X b) : w'.ownsRow base ty n v m cs :=
  own_keep h fun k e => hk.block k (World.ownsRow.lt h k e).2 (hX k e)
theorem TabCell.kep {X : Nat → Prop} {w w' : World} {x : Nat} {tm : Int} {v : Value} (h : TabCell w x tm v) (hk : Kep X w w') (hX : ¬ X x) : TabCell w' x tm v := (hk.block x h.lt hX).trans h
theorem BudCell.kep {X : Nat → Prop} {w w' : World} {x : Nat} {P A : Int} {v : Value} (h : BudCell w x P A v) (hk : Kep X w w') (hX : ¬ X x) : BudCell w' x P A v := (hk.block x (blk_lt h) hX).trans h
theorem DiceAt.kep {X : Nat → Prop} {w w' : World} {D : Nat} {R : List Int} (h : DiceAt w D R) (hk : Kep X w w') (hX : ∀ b, b ≤ D → ¬ X b) : DiceAt w' D R := h.keep fun k hk' => hk.block k (by have := h.lt; omega) (hX k hk')

/-- What Publish gives there. -/
def Pub13 (P Am tn : Int) (S L : List Spd) (x y E tm : Int) (Ls S' : List Spd) : Prop :=
  (used P S tn < Am ∧ tn = tm ∧ ln2 L x y = Ls ∧ S ++ [(tn, 1)] = S' ∧ 0 = E) ∨ (¬ used P S tn < Am ∧ 0 = tm ∧ [] = Ls ∧ S = S' ∧ 56 = E)
/-- The region, under way. -/
structure R13 (W0 : World) (D : Nat) (P Am tn : Int) (U : Option Addr) (C : List Spd) (uc : Nat) (Q : Option Addr) (S : List Spd) (cq : Nat) (V : Nat → Value) (L : Nat → Bool) (w : World) : Prop where
  kp : Kep (fun b => b = D) W0 w
  dice : ∃ R, DiceAt w D R
  v0 : L 0 = true → V 0 = nz 3 1 2
  v1 : L 1 = true → V 1 = .agg #[.int .i64 P, .int .i64 Am, .slice Q S.length cq]
  v2 : L 2 = true → V 2 = .int .i64 tn
  v3 : L 3 = true → V 3 = .slice U C.length uc
  v4 : L 4 = true → ∃ g, V 4 = .slice (some ⟨g, 0, none⟩) 2 2 ∧ W0.heap.size ≤ g ∧ (L 10 = false → IntsAt w (some ⟨g, 0, none⟩) [0, 2])
  v5 : L 5 = true → V 5 = .pointer (some ⟨D, 0, none⟩)
  v6 : L 6 = true → ∃ k : Nat, (k : Int) < 24 ∧ V 6 = .int .i64 (k : Int)
  v7 : L 7 = true → V 7 = .pointer (some ⟨D, 0, none⟩)
  v8 : L 8 = true → ∃ k : Nat, (k : Int) < 24 ∧ V 8 = .int .i64 (k : Int)
  v9 : L 9 = true → ∃ (g : Nat) (x y : Int), V 9 = .slice (some ⟨g, 0, none⟩) 2 2 ∧ (0 ≤ x ∧ x < 24) ∧ (0 ≤ y ∧ y < 24) ∧ W0.heap.size ≤ g ∧ (L 10 = false → IntsAt w (some ⟨g, 0, none⟩) [x, y])
  v10 : L 10 = true → ∃ (x y E tm : Int) (Ls S' : List Spd) (U' : Option Addr) (uc' : Nat) (Q' : Option Addr) (cq' : Nat), V 10 = .tuple #[.agg #[.int .i64 tm, .slice U' Ls.length uc'], .agg #[.int .i64 P, .int .i64 Am, .slice Q' S'.length cq'], .int .i64 E] ∧ (0 ≤ x ∧ x < 24) ∧ (0 ≤ y ∧ y < 24) ∧ Pub13 P Am tn S C x y E tm Ls S' ∧
    ElOwn elL 74 w W0.heap.size (.slice U' Ls.length uc') Ls ∧ SpOwn w W0.heap.size (.slice Q' S'.length cq') S' ∧
    (∀ b, U' = some ⟨b, 0, none⟩ ∨ Q' = some ⟨b, 0, none⟩ → (L 15 = true → V 15 ≠ .pointer (some ⟨b, 0, none⟩)) ∧ (L 16 = true → V 16 ≠ .pointer (some ⟨b, 0, none⟩)))
  v11 : L 11 = true → L 10 = true ∧ V 11 = V 10
  v12 : L 12 = true → L 10 = true ∧ ∃ vs, V 10 = .tuple vs ∧ vs[0]? = some (V 12)
  v13 : L 13 = true → L 10 = true ∧ ∃ vs, V 10 = .tuple vs ∧ vs[1]? = some (V 13)
  v14 : L 14 = true → L 10 = true ∧ ∃ vs, V 10 = .tuple vs ∧ vs[2]? = some (V 14)
  v15 : L 15 = true → ∃ a, V 15 = .pointer (some ⟨a, 0, none⟩) ∧ W0.heap.size ≤ a ∧ a < w.heap.size ∧ (L 17 = false → TabCell w a 0 (.slice none 0 0)) ∧ (L 17 = true → L 12 = true ∧ ∃ tm U' n c, V 12 = .agg #[.int .i64 tm, .slice U' n c] ∧ TabCell w a tm (.slice U' n c))
  v16 : L 16 = true → ∃ a, V 16 = .pointer (some ⟨a, 0, none⟩) ∧ W0.heap.size ≤ a ∧ a < w.heap.size ∧ (L 18 = false → BudCell w a 0 0 (.slice none 0 0)) ∧ (L 18 = true → L 13 = true ∧ ∃ P' A' U' n c, V 13 = .agg #[.int .i64 P', .int .i64 A', .slice U' n c] ∧ BudCell w a P' A' (.slice U' n c))
  s56 : L 15 = true → L 16 = true → V 15 ≠ V 16
  v19 : L 19 = true → L 14 = true ∧ V 19 = V 14
  d17 : L 17 = true → L 15 = true
  d18 : L 18 = true → L 16 = true
section
variable {W0 : World} {D : Nat} {P Am tn : Int} {U : Option Addr} {C : List Spd} {uc : Nat} {Q : Option Addr} {S : List Spd} {cq : Nat} {V : Nat → Value} {L : Nat → Bool} {w w' : World}
theorem R13.start (hD : ∃ R, DiceAt W0 D R) (V : Nat → Value) : R13 W0 D P Am tn U C uc Q S cq V (fun _ => false) W0.drew where
  kp := (Kep.refl _ _).drew
  dice := hD
  v0 h := by cases h
  v1 h := by cases h
  v2 h := by cases h
  v3 h := by cases h
  v4 h := by cases h
  v5 h := by cases h
  v6 h := by cases h
  v7 h := by cases h
  v8 h := by cases h
  v9 h := by cases h
  v10 h := by cases h
  v11 h := by cases h
  v12 h := by cases h
  v13 h := by cases h
  v14 h := by cases h
  v15 h := by cases h
  v16 h := by cases h
  s56 h := by cases h
  v19 h := by cases h
  d17 h := by cases h
  d18 h := by cases h
theorem own_some {b n c : Nat} : (Value.slice (some ⟨b, 0, none⟩) n c).ownBlock = some b := rfl
theorem own_ge {w : World} {base m : Nat} {ty : TypeId} {v : Value} {n : Nat} {cs : List Value} (h : w.ownsRow base ty m v n cs) : ∀ b, v.ownBlock = some b → base ≤ b ∧ b < w.heap.size := fun b e => World.ownsRow.lt h b e
theorem R13.move (h : R13 W0 D P Am tn U C uc Q S cq V L w) (hk : Kep (fun b => b = D) w w') (hd : ∃ R, DiceAt w' D R) (hD : D < W0.heap.size) : R13 W0 D P Am tn U C uc Q S cq V L w' := { h with
  kp := h.kp.trans hk
  dice := hd
  v4 := fun e => by
    obtain ⟨g, e1, e2, e3⟩ := h.v4 e
    exact ⟨g, e1, e2, fun e4 => (e3 e4).kep hk (fun a ha => by injection ha with ha; subst ha; show ¬ g = D; omega)⟩
  v9 := fun e => by
    obtain ⟨g, x, y, e1, hx, hy, e2, e3⟩ := h.v9 e
    exact ⟨g, x, y, e1, hx, hy, e2, fun e4 => (e3 e4).kep hk (fun a ha => by injection ha with ha; subst ha; show ¬ g = D; omega)⟩
  v10 := fun e => by
    obtain ⟨x, y, E, tm, Ls, S', U', uc', Q', cq', e1, hx, hy, hp, ho1, ho2, hs⟩ := h.v10 e
    exact ⟨x, y, E, tm, Ls, S', U', uc', Q', cq', e1, hx, hy, hp, own_kep ho1 hk (fun b eb => by have := (own_ge ho1 b eb).1; show ¬ b = D; omega), own_kep ho2 hk (fun b eb => by have := (own_ge ho2 b eb).1; show ¬ b = D; omega), hs⟩
  v15 := fun e => by
    obtain ⟨a, e1, e2, e3, e4, e5⟩ := h.v15 e
    have ha : ¬ a = D := by omega
    exact ⟨a, e1, e2, Nat.lt_of_lt_of_le e3 hk.size, fun e => (e4 e).kep hk ha, fun e => by
      obtain ⟨q0, tm, U', n, c, q1, q2⟩ := e5 e
      exact ⟨q0, tm, U', n, c, q1, q2.kep hk ha⟩⟩
  v16 := fun e => by
    obtain ⟨a, e1, e2, e3, e4, e5⟩ := h.v16 e
    have ha : ¬ a = D := by omega
    exact ⟨a, e1, e2, Nat.lt_of_lt_of_le e3 hk.size, fun e => (e4 e).kep hk ha, fun e => by
      obtain ⟨q0, P', A', U', n, c, q1, q2⟩ := e5 e
      exact ⟨q0, P', A', U', n, c, q1, q2.kep hk ha⟩⟩ }

theorem kep_alloc {X : Nat → Prop} (w : World) (o : Obj) : Kep X w (w.alloc o) := (Kep.refl X w).below (below_alloc w o)
theorem kep_grown {w w' : World} {D : Nat} (h : w.grownBy w' (some D)) : Kep (fun b => b = D) w w' := (Kep.refl _ w).grown h rfl
theorem dice_alloc {w : World} {D : Nat} (h : ∃ R, DiceAt w D R) (o : Obj) : ∃ R, DiceAt (w.alloc o) D R := let ⟨R, hR⟩ := h; ⟨R, hR.alloc o⟩
theorem nf {b : Bool} {A : Prop} (h : b = false) (h2 : b = true) : A := by rw [h] at h2; cases h2
theorem R13.o10 (h : R13 W0 D P Am tn U C uc Q S cq V L w) (hL : L 10 = false) (e : Value) (w' : World) (x y E tm : Int) (Ls S' : List Spd) (hx : 0 ≤ x ∧ x < 24) (hy : 0 ≤ y ∧ y < 24) (hp : Pub13 P Am tn S C x y E tm Ls S') (hPub : PubP P Am tm Ls S' E w (.returned e) w') (hD : D < W0.heap.size) :
    R13 W0 D P Am tn U C uc Q S cq (updV V 10 e) (upd L 10) w' := by
  obtain ⟨U', uc', Q', cq', he, ho1, ho2, -, -, hb⟩ := hPub.open_
  injection he with he
  have hk : Kep (fun b => b = D) w w' := (Kep.refl _ w).below hb
  obtain ⟨R, hR⟩ := h.dice
  have hs := h.kp.size
  exact { h.move hk ⟨R, hR.below hb⟩ hD with
    v4 := fun e => by obtain ⟨g, e1, e2, -⟩ := h.v4 e; exact ⟨g, e1, e2, fun e4 => by cases e4⟩
    v9 := fun e => by obtain ⟨g, x, y, e1, hx, hy, e2, -⟩ := h.v9 e; exact ⟨g, x, y, e1, hx, hy, e2, fun e4 => by cases e4⟩
    v10 := fun _ => ⟨x, y, E, tm, Ls, S', U', uc', Q', cq', he, hx, hy, hp, ho1.mono hs, ho2.mono hs, fun b hb' => by
      have hge : w.heap.size ≤ b := by
        rcases hb' with rfl | rfl
        · exact (own_ge ho1 b rfl).1
        · exact (own_ge ho2 b rfl).1
      refine ⟨fun e5 e6 => ?_, fun e5 e6 => ?_⟩
      · obtain ⟨a, q1, -, q3, -⟩ := h.v15 e5
        have : V 15 = .pointer (some ⟨b, 0, none⟩) := e6
        rw [q1] at this
        injection this with this; injection this with this; injection this with this; omega
      · obtain ⟨a, q1, -, q3, -⟩ := h.v16 e5
        have : V 16 = .pointer (some ⟨b, 0, none⟩) := e6
        rw [q1] at this
        injection this with this; injection this with this; injection this with this; omega⟩
    v11 := fun e => nf hL (h.v11 e).1
    v12 := fun e => nf hL (h.v12 e).1
    v13 := fun e => nf hL (h.v13 e).1
    v14 := fun e => nf hL (h.v14 e).1 }
theorem ptr_inj {a b : Nat} (h : Value.pointer (some ⟨a, 0, none⟩) = .pointer (some ⟨b, 0, none⟩)) : a = b := by
  injection h with h; injection h with h; injection h
theorem R13.o15 (h : R13 W0 D P Am tn U C uc Q S cq V L w) (hL : L 15 = false) (hD : D < W0.heap.size) :
    R13 W0 D P Am tn U C uc Q S cq (updV V 15 (.pointer (some ⟨w.heap.size, 0, none⟩))) (upd L 15) (w.alloc (.cells #[.int .i64 0, .slice none 0 0] 52)) := { h.move (kep_alloc w _) (dice_alloc h.dice _) hD with
  v10 := fun e => by
    obtain ⟨x, y, E, tm, Ls, S', U', uc', Q', cq', e1, hx, hy, hp, ho1, ho2, hs⟩ := h.v10 e
    refine ⟨x, y, E, tm, Ls, S', U', uc', Q', cq', e1, hx, hy, hp, ho1.alloc _, ho2.below (below_alloc _ _), fun b hb => ⟨fun _ e6 => ?_, (hs b hb).2⟩⟩
    have := ptr_inj e6
    rcases hb with rfl | rfl
    · have := (own_ge ho1 b rfl).2; omega
    · have := (own_ge ho2 b rfl).2; omega
  v15 := fun _ => ⟨_, rfl, h.kp.size, by simp, fun _ => TabCell.new _ _ rfl, fun e => nf hL (h.d17 e)⟩
  s56 := fun _ e => by
    obtain ⟨a, q1, -, q3, -⟩ := h.v16 e
    intro e2
    have : Value.pointer (some ⟨w.heap.size, 0, none⟩) = V 16 := e2
    rw [q1] at this
    have := ptr_inj this; omega
  d17 := fun _ => rfl }
theorem R13.o16 (h : R13 W0 D P Am tn U C uc Q S cq V L w) (hL : L 16 = false) (hD : D < W0.heap.size) :
    R13 W0 D P Am tn U C uc Q S cq (updV V 16 (.pointer (some ⟨w.heap.size, 0, none⟩))) (upd L 16) (w.alloc (.cells #[.int .i64 0, .int .i64 0, .slice none 0 0] 24)) := { h.move (kep_alloc w _) (dice_alloc h.dice _) hD with
  v10 := fun e => by
    obtain ⟨x, y, E, tm, Ls, S', U', uc', Q', cq', e1, hx, hy, hp, ho1, ho2, hs⟩ := h.v10 e
    refine ⟨x, y, E, tm, Ls, S', U', uc', Q', cq', e1, hx, hy, hp, ho1.alloc _, ho2.below (below_alloc _ _), fun b hb => ⟨(hs b hb).1, fun _ e6 => ?_⟩⟩
    have := ptr_inj e6
    rcases hb with rfl | rfl
    · have := (own_ge ho1 b rfl).2; omega
    · have := (own_ge ho2 b rfl).2; omega
  v16 := fun _ => ⟨_, rfl, h.kp.size, by simp, fun _ => BudCell.new _ _ _ rfl, fun e => nf hL (h.d18 e)⟩
  s56 := fun e _ => by
    obtain ⟨a, q1, -, q3, -⟩ := h.v15 e
    intro e2
    have : V 15 = Value.pointer (some ⟨w.heap.size, 0, none⟩) := e2
    rw [q1] at this
    have := ptr_inj this; omega
  d18 := fun _ => rfl }
theorem dice_set {w : World} {D : Nat} (h : ∃ R, DiceAt w D R) (p : Addr) (u : Value) (hp : D < p.block) : ∃ R, DiceAt (w.setCell p u) D R := let ⟨R, hR⟩ := h; ⟨R, hR.setCell p u hp⟩
theorem R13.o17 (h : R13 W0 D P Am tn U C uc Q S cq V L w) (h12 : L 12 = true) (h15 : L 15 = true) (hD : D < W0.heap.size) :
    ∃ w', (Instr.storeAt 52 (V 15) (V 12)).run Try.prog w = .ok () w' ∧ R13 W0 D P Am tn U C uc Q S cq (updV V 17 undef) (upd L 17) w' := by
  obtain ⟨h10, vs, e10, e12⟩ := h.v12 h12
  obtain ⟨x, y, E, tm, Ls, S', U', uc', Q', cq', q10, hx, hy, hp, ho1, ho2, hs⟩ := h.v10 h10
  obtain ⟨a, e15, ha1, ha2, hc0, hc1⟩ := h.v15 h15
  rw [q10] at e10
  injection e10 with e10
  subst e10
  injection e12 with e12
  have hcell : ∃ tm0 u0, TabCell w a tm0 u0 := by
    cases h17 : L 17 with
    | false => exact ⟨_, _, hc0 h17⟩
    | true => obtain ⟨-, tm0, U0, n0, c0, -, hc⟩ := hc1 h17; exact ⟨_, _, hc⟩
  obtain ⟨tm0, u0, hcell⟩ := hcell
  refine ⟨_, by rw [e15, ← e12]; exact st_tab hcell U' Ls.length uc', ?_⟩
  have hk : Kep (fun b => b = a) w ((w.setCell ⟨a, 0, none⟩ (.int .i64 tm)).setCell ⟨a, 1, none⟩ (.slice U' Ls.length uc')) := ((Kep.refl (fun b => b = a) w).set ⟨a, 0, none⟩ _ (.inl rfl)).set ⟨a, 1, none⟩ _ (.inl rfl)
  have hDa : D < a := by omega
  exact { h with
    kp := (h.kp.set ⟨a, 0, none⟩ _ (.inr ha1)).set ⟨a, 1, none⟩ _ (.inr ha1)
    dice := dice_set (dice_set h.dice _ _ hDa) _ _ hDa
    v4 := fun e => by obtain ⟨g, e1, e2, -⟩ := h.v4 e; exact ⟨g, e1, e2, fun e4 => nf e4 h10⟩
    v9 := fun e => by obtain ⟨g, x, y, e1, hx, hy, e2, -⟩ := h.v9 e; exact ⟨g, x, y, e1, hx, hy, e2, fun e4 => nf e4 h10⟩
    v10 := fun _ => ⟨x, y, E, tm, Ls, S', U', uc', Q', cq', q10, hx, hy, hp, own_kep ho1 hk (fun b eb => (by
        show ¬ b = a
        rintro rfl
        obtain ⟨A, c, ev, -, -, hA, -⟩ := ho1.at_
        injection ev with ev1 ev2 ev3
        rcases U' with _ | ⟨ub, uo, us⟩
        · cases eb
        · obtain ⟨q1, q2, q3, q4⟩ := hA _ ev1.symm
          dsimp only at q1 q2
          subst q1; subst q2
          injection eb with eb; subst eb
          exact ((hs _ (.inl rfl)).1 h15) e15)), own_kep ho2 hk (fun b eb => (by
        show ¬ b = a
        rintro rfl
        rcases ho2.2 with ⟨ev, _⟩ | ⟨g, cap, cur, ev, _⟩
        · injection ev with ev; rw [ev] at eb; cases eb
        · injection ev with ev1 ev2 ev3
          subst ev1
          injection eb with eb; subst eb
          exact ((hs _ (.inr rfl)).1 h15) e15)), hs⟩
    v15 := fun _ => ⟨a, e15, ha1, by simpa [World.setCell] using ha2, fun e => (by cases e), fun _ => ⟨h12, tm, U', Ls.length, uc', e12.symm, (hcell.set0 tm).set1 _⟩⟩
    v16 := fun e => by
      obtain ⟨b, q1, q2, q3, q4, q5⟩ := h.v16 e
      have hba : ¬ b = a := by rintro rfl; exact h.s56 h15 e (e15.trans q1.symm)
      exact ⟨b, q1, q2, by simpa [World.setCell] using q3, fun e => (q4 e).kep hk hba, fun e => by
        obtain ⟨q6, P', A', U1, n, c, q7, q8⟩ := q5 e
        exact ⟨q6, P', A', U1, n, c, q7, q8.kep hk hba⟩⟩
    d17 := fun _ => h15 }
theorem R13.o18 (h : R13 W0 D P Am tn U C uc Q S cq V L w) (h13 : L 13 = true) (h16 : L 16 = true) (hD : D < W0.heap.size) :
    ∃ w', (Instr.storeAt 24 (V 16) (V 13)).run Try.prog w = .ok () w' ∧ R13 W0 D P Am tn U C uc Q S cq (updV V 18 undef) (upd L 18) w' := by
  obtain ⟨h10, vs, e10, e13⟩ := h.v13 h13
  obtain ⟨x, y, E, tm, Ls, S', U', uc', Q', cq', q10, hx, hy, hp, ho1, ho2, hs⟩ := h.v10 h10
  obtain ⟨a, e16, ha1, ha2, hc0, hc1⟩ := h.v16 h16
  rw [q10] at e10
  injection e10 with e10
  subst e10
  injection e13 with e13
  have hcell : ∃ p0 a0 u0, BudCell w a p0 a0 u0 := by
    cases h18 : L 18 with
    | false => exact ⟨_, _, _, hc0 h18⟩
    | true => obtain ⟨-, p0, a0, U0, n0, c0, -, hc⟩ := hc1 h18; exact ⟨_, _, _, hc⟩
  obtain ⟨p0, a0, u0, hcell⟩ := hcell
  refine ⟨_, by rw [e16, ← e13]; exact st_bud hcell Q' S'.length cq', ?_⟩
  have hk : Kep (fun b => b = a) w (((w.setCell ⟨a, 0, none⟩ (.int .i64 P)).setCell ⟨a, 1, none⟩ (.int .i64 Am)).setCell ⟨a, 2, none⟩ (.slice Q' S'.length cq')) := (((Kep.refl (fun b => b = a) w).set ⟨a, 0, none⟩ _ (.inl rfl)).set ⟨a, 1, none⟩ _ (.inl rfl)).set ⟨a, 2, none⟩ _ (.inl rfl)
  have hDa : D < a := by omega
  exact { h with
    kp := ((h.kp.set ⟨a, 0, none⟩ _ (.inr ha1)).set ⟨a, 1, none⟩ _ (.inr ha1)).set ⟨a, 2, none⟩ _ (.inr ha1)
    dice := dice_set (dice_set (dice_set h.dice _ _ hDa) _ _ hDa) _ _ hDa
    v4 := fun e => by obtain ⟨g, e1, e2, -⟩ := h.v4 e; exact ⟨g, e1, e2, fun e4 => nf e4 h10⟩
    v9 := fun e => by obtain ⟨g, x, y, e1, hx, hy, e2, -⟩ := h.v9 e; exact ⟨g, x, y, e1, hx, hy, e2, fun e4 => nf e4 h10⟩
    v10 := fun _ => ⟨x, y, E, tm, Ls, S', U', uc', Q', cq', q10, hx, hy, hp, own_kep ho1 hk (fun b eb => (by
        show ¬ b = a
        rintro rfl
        rcases ho1.2 with ⟨ev, _⟩ | ⟨g, cap, cur, ev, _⟩
        · injection ev with ev; rw [ev] at eb; cases eb
        · injection ev with ev1 ev2 ev3
          subst ev1
          injection eb with eb; subst eb
          exact ((hs _ (.inl rfl)).2 h16) e16)), own_kep ho2 hk (fun b eb => (by
        show ¬ b = a
        rintro rfl
        rcases ho2.2 with ⟨ev, _⟩ | ⟨g, cap, cur, ev, _⟩
        · injection ev with ev; rw [ev] at eb; cases eb
        · injection ev with ev1 ev2 ev3
          subst ev1
          injection eb with eb; subst eb
          exact ((hs _ (.inr rfl)).2 h16) e16)), hs⟩
    v16 := fun _ => ⟨a, e16, ha1, by simpa [World.setCell] using ha2, fun e => (by cases e), fun _ => ⟨h13, P, Am, Q', S'.length, cq', e13.symm, ((hcell.set0 P).set1 Am).set2 _⟩⟩
    v15 := fun e => by
      obtain ⟨b, q1, q2, q3, q4, q5⟩ := h.v15 e
      have hba : ¬ b = a := by rintro rfl; exact h.s56 e h16 (q1.trans e16.symm)
      exact ⟨b, q1, q2, by simpa [World.setCell] using q3, fun e => (q4 e).kep hk hba, fun e => by
        obtain ⟨q6, tm', U1, n, c, q7, q8⟩ := q5 e
        exact ⟨q6, tm', U1, n, c, q7, q8.kep hk hba⟩⟩
    d18 := fun _ => h16 }
/-- What the region leaves. -/
theorem R13.fin (h : R13 W0 D P Am tn U C uc Q S cq V L w) (hL : ∀ i, i < 20 → L i = true) :
    ∃ (x y E tm : Int) (Ls S' : List Spd) (U' : Option Addr) (uc' : Nat) (Q' : Option Addr) (cq' a b : Nat), (0 ≤ x ∧ x < 24) ∧ (0 ≤ y ∧ y < 24) ∧ Pub13 P Am tn S C x y E tm Ls S' ∧
      V 19 = .int .i64 E ∧ V 15 = .pointer (some ⟨a, 0, none⟩) ∧ V 16 = .pointer (some ⟨b, 0, none⟩) ∧ TabCell w a tm (.slice U' Ls.length uc') ∧ BudCell w b P Am (.slice Q' S'.length cq') ∧
      ElOwn elL 74 w W0.heap.size (.slice U' Ls.length uc') Ls ∧ SpOwn w W0.heap.size (.slice Q' S'.length cq') S' ∧ W0.heap.size ≤ a ∧ W0.heap.size ≤ b ∧ Kep (fun b => b = D) W0 w ∧ ∃ R, DiceAt w D R := by
  obtain ⟨h10, vs, e10, e12⟩ := h.v12 (hL 12 (by decide))
  obtain ⟨x, y, E, tm, Ls, S', U', uc', Q', cq', q10, hx, hy, hp, ho1, ho2, hs⟩ := h.v10 h10
  obtain ⟨a, e15, ha1, ha2, -, hc1⟩ := h.v15 (hL 15 (by decide))
  obtain ⟨b, e16, hb1, hb2, -, hd1⟩ := h.v16 (hL 16 (by decide))
  obtain ⟨-, vs2, e20, e13⟩ := h.v13 (hL 13 (by decide))
  obtain ⟨-, vs3, e30, e14⟩ := h.v14 (hL 14 (by decide))
  obtain ⟨-, tm1, U1, n1, c1, f1, hc⟩ := hc1 (hL 17 (by decide))
  obtain ⟨-, P2, A2, U2, n2, c2, f2, hd⟩ := hd1 (hL 18 (by decide))
  rw [q10] at e10 e20 e30
  injection e10 with e10
  injection e20 with e20
  injection e30 with e30
  subst e10; subst e20; subst e30
  injection e12 with e12
  injection e13 with e13
  injection e14 with e14
  rw [← e12] at f1
  rw [← e13] at f2
  injection f1 with f1
  injection f2 with f2
  simp at f1 f2
  obtain ⟨rfl, rfl, rfl, rfl⟩ := f1
  obtain ⟨rfl, rfl, rfl, rfl, rfl⟩ := f2
  exact ⟨x, y, E, tm, Ls, S', U', uc', Q', cq', a, b, hx, hy, hp, by rw [(h.v19 (hL 19 (by decide))).2, ← e14]; rfl, e15, e16, hc, hd, ho1, ho2, ha1, hb1, h.kp, h.dice⟩
end
end Go.Proofs.Ytmnkgfimdlhhiaa
