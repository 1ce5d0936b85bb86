/-
  append(s, make([]int, m)...): zeros onto a row of the own.
  Shares: the program's Explain.
  The document's Explain: which holders are known (a map), shares made at once, two lists under way.
  Conditions: those that each theorem names.
-/
import Derived.Test.YtkjpnhhkebbmdaaDoorM8
import Derived.Laws.MakeOwn
set_option linter.unusedVariables false
set_option linter.unusedSimpArgs false
namespace Go.Proofs.YtkjpnhhkebbmdaaDoor
open Go.RowKit

theorem zeroCells_int (m : Nat) : Builtin.zeroCells (Value.int .i64 0).cells m = (List.replicate m (Value.int .i64 0)).toArray := by
  rw [show (Value.int .i64 0).cells = #[Value.int .i64 0] from rfl]
  apply Array.ext
  · simp [Builtin.zeroCells]
  · intro i h1 h2
    simp [Builtin.zeroCells]
    have : i % 1 = 0 := Nat.mod_one i
    simp [this]
theorem run_app_zero_room (ty : TypeId) {w : World} {g n cap m : Nat} {cur : Array Value} (hg : w.heap[g]? = some (.cells cur 3 (0, 0))) (hroom : n + m ≤ cap) (hfit : n + m ≤ cur.size) (hm : 0 < m) (hm2 : m ≤ 1099511627776) :
    (Builtin.append_ #[22, 3] ty #[.slice (some ⟨g, 0, none⟩) n cap, .int .i64 (m : Int)]).run Tryd.prog w =
      .ok (.slice (some ⟨g, 0, none⟩) (n + m) cap) (w.setRow g (cur.toList.take n ++ List.replicate m (Value.int .i64 0) ++ cur.toList.drop (n + m)).toArray) := by
  obtain ⟨i, hi, hz, hsz, hby⟩ := info_parts info_int
  have hst := run_storeCells_at Tryd.prog g (n * i.size) 3 (List.replicate m (Value.int .i64 0)) 0 cur w hg (by rw [hsz]; simpa using hfit) (fun u hu => by rw [List.eq_of_mem_replicate hu]; rfl)
  simp only [Nat.add_zero] at hst
  have hw : IntKind.i64.wrap (m : Int) = (m : Int) := IntWalk.i64_in _ (by omega)
  have h1 : ¬ ((m : Int) < 0) := by omega
  have h2 : ¬ (281474976710656 < (m : Int) * i.bytes) := by rw [hby]; omega
  have hn1 : n * i.size = n := by rw [hsz, Nat.mul_one]
  have hr := hst
  rw [hn1] at hr
  simp [Builtin.append_, run_underlying Tryd.underlying22, run_underlying Tryd.underlying3, sizeOf, typeInfo, zeroValue, hi, hz, hroom, hw, h1, h2, Addr.add_lit, zeroCells_int, asInt, asIntOf, hr, hsz, show ¬ m = 0 by omega]
theorem run_app_zero_grow (ty : TypeId) {w : World} {b : Addr} {n cap m : Nat} {olds : List Value} (hlo : olds.length = n) (holds : ∀ j v, olds[j]? = some v → w.cell? (b.add j) = some v) (hgr : cap < n + m) (hm : 0 < m) (hl : n + m ≤ 4294967296) :
    (Builtin.append_ #[22, 3] ty #[.slice (some b) n cap, .int .i64 (m : Int)]).run Tryd.prog w =
      .ok (.slice (some ⟨w.heap.size, 0, none⟩) (n + m) (grownCap w (n + m) cap 3)) (w.drew.alloc (.cells (olds.toArray ++ (List.replicate m (Value.int .i64 0)).toArray ++ Builtin.zeroCells (Value.int .i64 0).cells (grownCap w (n + m) cap 3 - (n + m))) 3)) := by
  obtain ⟨i, hi, hz, hsz, hby⟩ := info_parts info_int
  have hw : IntKind.i64.wrap (m : Int) = (m : Int) := IntWalk.i64_in _ (by omega)
  have h1 : ¬ ((m : Int) < 0) := by omega
  have h2 : ¬ (281474976710656 < (m : Int) * i.bytes) := by rw [hby]; omega
  have hn : ¬ (n + m ≤ cap) := by omega
  have h63' : ¬ (9223372036854775807 < ((n : Int) + (m : Int))) := by omega
  have h48' : ¬ (281474976710656 < Builtin.nextslicecap (n + m) cap * i.bytes) := by
    have := growslice_fits (need := n + m) (old := cap) (bytes := i.bytes) (by omega) (by rw [hby]; omega)
    omega
  have hfo := run_firstCells_some (P := Tryd.prog) w.drew i.size n b n cap olds (by rw [hlo, hsz, Nat.mul_one]) (by simpa using holds)
  rw [hsz] at hfo
  simp [Builtin.append_, run_underlying Tryd.underlying22, run_underlying Tryd.underlying3, sizeOf, typeInfo, zeroValue, hi, hz, hn, hw, h1, h2, h63', h48', Question.forced, asInt, asIntOf, hsz, show ¬ m = 0 by omega, hfo, newRow, grownCap, zeroCells_int]
theorem take_two {α : Type} {X Y Z : List α} {n : Nat} (h : n = X.length + Y.length) : (X ++ Y ++ Z).take n = X ++ Y := by rw [h, ← List.length_append]; exact List.take_left
theorem run_app_zeros (ty : TypeId) {w : World} {base : Nat} {v : Value} {S : List Nat} (m : Nat) (hown : w.ownsRow base 3 1 v S.length (valsN S)) (h0 : 0 < S.length) (hl : S.length + m ≤ 4294967296) (hbase : base ≤ w.heap.size) :
    ∃ v' w', (Builtin.append_ #[22, 3] ty #[v, .int .i64 (m : Int)]).run Tryd.prog w = .ok v' w' ∧ w'.ownsRow base 3 1 v' (S ++ List.replicate m 0).length (valsN (S ++ List.replicate m 0)) ∧ w.grownBy w' v.ownBlock := by
  obtain ⟨i, hi, hz, hsz, hby⟩ := info_parts info_int
  have hxl : (valsN S).length = S.length := by simp [valsN]
  have hval : valsN (S ++ List.replicate m 0) = valsN S ++ List.replicate m (Value.int .i64 0) := by simp [valsN]
  have hlen : (S ++ List.replicate m 0).length = S.length + m := by simp
  rcases Nat.eq_zero_or_pos m with rfl | hm
  · refine ⟨v, w, ?_, by simpa using hown, ⟨rfl, rfl, rfl, Nat.le_refl _, fun _ _ _ => rfl⟩⟩
    rcases hown.2 with ⟨_, h2⟩ | ⟨g, cap, cur, rfl, hbg, hg, hnc, hcm, hcs, htake⟩
    · omega
    · simp [Builtin.append_, run_underlying Tryd.underlying22, run_underlying Tryd.underlying3, sizeOf, typeInfo, zeroValue, hi, hz, hnc, hby, asInt, asIntOf, Addr.add_lit, storeCells, show IntKind.i64.wrap 0 = 0 by decide]
  · rcases hown.2 with ⟨_, h2⟩ | ⟨g, cap, cur, rfl, hbg, hg, hnc, hcm, hcs, htake⟩
    · omega
    · rw [hval, hlen]
      by_cases hroom : S.length + m ≤ cap
      · refine ⟨_, _, run_app_zero_room ty hg hroom (by omega) hm (by omega), ⟨by simp [valsN], .inr ⟨g, cap, _, rfl, hbg, setRow_heap w g cur _ _ _ hg, hroom, hcm, ?_, ?_⟩⟩, ⟨rfl, rfl, rfl, by simp, fun k _ hk => setRow_other w g k _ (fun e => hk (by simp [Value.ownBlock, e]))⟩⟩
        · simp; omega
        · rw [Nat.mul_one] at htake ⊢
          rw [htake]
          exact take_two (by rw [hxl, List.length_replicate])
      · have holds : ∀ j u, (valsN S)[j]? = some u → w.cell? ((⟨g, 0, none⟩ : Addr).add j) = some u := hown.cells (g := g) rfl
        have hge := grownCap_ge w (S.length + m) cap 3
        have hcm2 : grownCap w (S.length + m) cap 3 ≤ maxLen := grownCap_le_maxLen w (S.length + m) cap 3 (by unfold maxLen; omega)
        refine ⟨_, _, run_app_zero_grow ty hxl holds (by omega) hm hl, ⟨by simp [valsN], .inr ⟨w.heap.size, _, _, rfl, hbase, heap_alloc_new w.drew _, hge, hcm2, ?_, ?_⟩⟩, ⟨rfl, rfl, rfl, by simp, fun k hk _ => (by first | exact heap_alloc_old w.drew _ k hk | exact heap_alloc_old w.drew _ hk)⟩⟩
        · simp only [Array.size_append, List.size_toArray, size_zeroCells, hxl, List.length_replicate, show (Value.int .i64 0).cells.size = 1 from rfl]
          omega
        · rw [Nat.mul_one, Array.toList_append, Array.toList_append]
          exact take_two (by rw [List.length_replicate]; show _ = (valsN S).length + m; rw [hxl])
/-- append of m zeros onto a row of the own. -/
theorem app_zeros {ops : Array Oper} {rest : List Oper} {o : Oper} {a : Act} {Q : Exit → Act → World → Prop} (hgd : o.guard = none) (s x : Operand)
    (ho : o.op = .call { callee := .builtin .append, args := #[s, x], argTypes := #[22, 3] })
    {base : Nat} {w : World} {v : Value} {S : List Nat} (m : Nat) (hs : a.eval s = v) (hown : w.ownsRow base 3 1 v S.length (valsN S)) (h0 : 0 < S.length)
    (hx : a.eval x = .int .i64 (m : Int)) (hl : S.length + m ≤ 4294967296) (hbase : base ≤ w.heap.size)
    (h : ∀ v' w', w'.ownsRow base 3 1 v' (S ++ List.replicate m 0).length (valsN (S ++ List.replicate m 0)) → Below base w w' → wpList Tryd.prog ops Q rest (a.put o.dst v') w') :
    wpList Tryd.prog ops Q (o :: rest) a w := by
  refine wpList_plain hgd fun _ hK => ?_
  obtain ⟨v', w', hr, h2, h3⟩ := run_app_zeros o.type m hown h0 hl hbase
  unfold Oper.wp execOp
  simp only [ho, resolve, invoke, builtin, Sem.run_bind, Sem.run_pure, Result.andThen_ok, List.map_toArray, List.map_cons, List.map_nil, hs, hx, hr]
  exact hK _ _ (h v' w' h2 ((Below.refl _ _).grown h3 hbase (fun k hk => (hown.lt k hk).1)))
end Go.Proofs.YtkjpnhhkebbmdaaDoor
namespace Go.Proofs.YtkjpnhhkebbmdaaDoor
open Go.RowKit

set_option maxHeartbeats 1000000 in
theorem indexN_any (B : Option Addr) (L : List Nat) (x c : Nat) (w : World) (hI : NatsAt w B L) (hl : L.length ≤ 1048576) :
    Calls Tryd.prog 74 #[.slice B L.length c, .int .i64 (x : Int)] w (fun e w' => ∃ i : Int, e = .returned (.int .i64 i) ∧ decide (0 ≤ i) = decide (x ∈ L) ∧ Below w.heap.size w w') := by
  have HS := Lib.hid hI
  clear hI
  go_enter Tryd.func74, Tryd.ntmps74
  go_wp2_with fail
  go_loopw [8] (fun i wr => ∃ k : Nat, k ≤ L.length ∧ i = .int .i64 k ∧ (∀ j, j < k → nthN L j ≠ x) ∧ Below w.heap.size w wr) (fun i _ => L.length - (intOf i).toNat)
  case atStart => exact ⟨0, Nat.zero_le _, rfl, fun j hj => absurd hj (by omega), Below.refl _ _⟩
  case round =>
    obtain ⟨k, hk, rfl, hpre, hbr⟩ := hrel
    have HP := Lib.hid hpre
    clear hpre
    by_cases hlt : k < L.length
    · obtain ⟨b, off, rfl, hbl, c1⟩ := HS.out k hlt
      have d1 := (hbr.cell hbl).trans c1
      clear c1
      have HM := Lib.hid (nthN_mem hlt)
      have HY := Lib.hid (show nthN L k = nthN L k from rfl)
      generalize hy : nthN L k = y at d1 HM
      have HYK := Lib.hid hy
      clear hy HY
      by_cases hxy : x = y
      · subst hxy
        go_wp2_with fail
        go_ret
        exact ⟨_, rfl, by rw [decide_eq_true HM.out]; exact decide_eq_true (by omega), hbr⟩
      · have t : ((x : Int) == (y : Int)) = false := by simp; omega
        have HNE := Lib.hid hxy
        clear hxy
        go_wp2_with fail
        go_roundw
        case rel =>
          refine ⟨k + 1, by omega, by go_num, fun j hj => ?_, hbr⟩
          by_cases hjk : j = k
          · subst hjk; rw [HYK.out]; exact fun e => HNE.out e.symm
          · exact HP.out j (by omega)
        case measure => simp [intOf]; omega
    · go_wp2_with fail
      go_ret
      refine ⟨_, rfl, ?_, hbr⟩
      have : ¬ x ∈ L := fun hx => by
        obtain ⟨j, hj, e⟩ := List.getElem_of_mem hx
        exact HP.out j (by omega) (by rw [nthN_eq hj]; exact e)
      rw [decide_eq_false this]; rfl
set_option maxHeartbeats 400000 in
theorem containsN_any (B : Option Addr) (L : List Nat) (x c : Nat) (w : World) (hI : NatsAt w B L) (hl : L.length ≤ 1048576) :
    Calls Tryd.prog 62 #[.slice B L.length c, .int .i64 (x : Int)] w (RetB (.bool (decide (x ∈ L))) w) := by
  have HC := Lib.hid (indexN_any B L x c w hI hl)
  clear hI
  go_enter Tryd.func62, Tryd.ntmps62
  go_wp2_with fail
  refine HC.out.mono ?_
  rintro e w1 ⟨i, rfl, hi, hb⟩
  have HI := Lib.hid hi
  clear hi
  go_wp2_with fail
  go_ret
  exact RetB.bool HI.out hb
theorem xpX_mem {hs : List Nat} {j : Nat} : (j + 1) ∈ xpX hs j ↔ (j + 1) ∈ hs := by
  unfold xpX
  refine ⟨fun h => ?_, fun h => List.mem_append_left _ (List.mem_append_right _ h)⟩
  rcases List.mem_append.1 h with h | h
  · rcases List.mem_append.1 h with h | h
    · simp at h
    · exact h
  · have := fill_mem h; omega
theorem xpX_held {hs : List Nat} {j : Nat} (h : (j + 1) ∈ hs) : xpX hs (j + 1) = xpX hs j := by unfold xpX; rw [fill_held h]
theorem xpX_new {hs : List Nat} {j : Nat} (h : ¬ (j + 1) ∈ hs) : xpX hs (j + 1) = xpX hs j ++ [j + 1] := by unfold xpX; rw [fill_new h]; simp only [List.append_assoc]
theorem xpX_many (hs : List Nat) (j : Nat) : j + 1 ≤ (xpX hs j).length := by rw [xpX_len]; have := fill_many hs j; omega
theorem deal_goT {wr w6 : World} {d base p : Nat} {n h : Int} {T : List ShN} (hD : DlrAt wr d base p n h T) (hb : Below wr.heap.size wr w6) {F : Option Addr} {f : List Nat} (hF : NatsAt w6 F f) (hFb : ∀ b off, F = some ⟨b, off, none⟩ → wr.heap.size ≤ b ∧ b < w6.heap.size) (cf : Nat)
    (hp : 1 ≤ p) (hp2 : p ≤ 2147483648) (hf : ∀ x ∈ f, x < p) (hh : ∀ j, j < T.length → hN T j < p ∧ (vN T j).length ≤ 1048576) (hh0 : T.length ≤ 1000) (hfl : f.length ≤ 1048576) :
    Calls Tryd.prog 46 #[.pointer (some ⟨d, 0, none⟩), .slice F f.length cf] w6
      (fun e w' => e = .returned (.tuple #[]) ∧ DlrAt w' d base p n h (stepT p f T T.length) ∧ Below base w6 w') := by
  obtain ⟨h1, h2, v, H, h3, h4⟩ := hD
  refine deal_any d base p n h _ F cf f w6 v H h1 (Nat.le_trans h2 hb.size) ((hb.block d (by omega)).trans h3) (h4.below hb) hF (fun bF off e => ⟨fun i hi b e2 => ?_, fun b e2 => ?_⟩) (fun bF off e => (hFb bF off e).2) hp hp2 hf (fun j hj => (hh j hj).1) hfl hh0 (fun j hj => (hh j hj).2)
  · have := (hFb bF off e).1
    have := (World.ownsRow.lt (h4.row i hi) b e2).2
    omega
  · have := (hFb bF off e).1
    have := (World.ownsRow.lt h4.out b e2).2
    omega
theorem sl_none {A : Option Addr} {c : Nat} {L : List Nat} (h : SlOK A c L) : A = none → L.length = 0 ∧ c = 0 := fun e => by
  have h1 := h.nil e
  have h2 := h.len
  exact ⟨by omega, h1⟩
theorem xpY_lit (K : List ShN) (sec : List Nat) (c e : Nat) : [nthN sec e] ++ colN K e ++ List.replicate c 0 = xpY K sec c e := rfl
theorem thR_xp {p n h k : Nat} {K : List ShN} {sec : List Nat} (P : PlanN p n h) (hg : GoodN p h K) (hk : k < p) (e : Nat) :
    thR p (xpX (hsN K) k) (xpY K sec (fillN (hsN K) k).length e) = thN p (xpX (hsN K) k) (xpY K sec (fillN (hsN K) k).length e) ∧ itE (xpX (hsN K) k) (xpY K sec (fillN (hsN K) k).length e) = 0 := by
  have hr := hs_rng hg
  have h0 : itE (xpX (hsN K) k) (xpY K sec (fillN (hsN K) k).length e) = 0 := by
    rw [itE_len (by rw [xpX_len, xpY_len, hsN_len]), ckE_ok (by rw [xpX_len]; omega) (xpX_nodup hg.nd (fun h0 => by have := hr 0 h0; omega) k)]
  exact ⟨thR_ok h0, h0⟩

set_option maxRecDepth 100000 in
set_option maxHeartbeats 8000000 in
theorem explain_any {P0 : Nat → Prop} {p n h : Nat} (P : PlanN p n h) (A B : Option Addr) (ca cb : Nat) (S : List Shr) (sec : List Int) (w : World) (hB : Bases w) (hS : ShP P0 w A ca S) (hsh : Short S) (hl : S.length ≤ 1048576) (hI : IntsAt w B sec) (hl2 : sec.length ≤ 1048576) :
    Calls Tryd.prog 40 #[planV p n h, .slice A S.length ca, .slice B sec.length cb] w (ShErr (shL (xpL p n h S sec)) (xpE p n h S sec) w) := by
  have hva := valid_plan p n h (w.alloc (.cells #[.int .i64 (p : Int), .int .i64 (n : Int), .int .i64 (h : Int)] 24)) (hB.keep (below_alloc _ _))
  rw [P.pl] at hva
  have HV := Lib.hid hva
  have HGD := Lib.hid (fun (W : World) (hb : Below w.heap.size w W) => good_any p n h A ca S W (hS.below hb) hsh (by have := P.h7; omega) hl)
  have HES := Lib.hid (fun (W : World) (hb : Below w.heap.size w W) => elements_plan p n h B sec cb W (hI.below hb) (by omega))
  have HS := Lib.hid hS
  have HI := Lib.hid hI
  have HPN := Lib.hid P
  have hn1 := P.n1
  have hnh := P.nh
  have hh7 := P.h7
  have hhp := P.hp
  have hp2 := P.p2
  have hp1 := P.p1
  clear hva hS hI hB hsh P
  cases hgd : gdB p h S with
  | false =>
    have he := xpE_gd (n := n) (sec := sec) hgd
    rw [xpL_no (by rw [he]; decide), he]
    rw [hgd] at HGD
    clear hgd he
    go_enter Tryd.func40, Tryd.ntmps40
    go_wp2_with fail
    refine ret_below HV.out ?_
    intro w1 hb1
    have hbw1 := below_trans (below_alloc _ _) hb1
    have HP1 := Lib.hid ((PlanCell.new (w := w) p n h rfl).below hb1)
    have p0 := HP1.out.c0
    have p1 := HP1.out.c1
    have p2 := HP1.out.c2
    go_wp2_with fail
    refine ret_below (HGD.out _ hbw1) ?_
    intro w2 hb2
    have hbw2 := below_trans hbw1 hb2
    have HP2 := Lib.hid (HP1.out.below hb2)
    clear p0 p1 p2
    have p0 := HP2.out.c0
    have p1 := HP2.out.c1
    have p2 := HP2.out.c2
    go_wp2_with fail
    go_ret2
    exact ShErr.nil _ hbw2
  | true =>
    rw [hgd] at HGD
    have HGT := Lib.hid hgd
    clear hgd
    rcases Nat.eq_zero_or_pos S.length with h0 | h0
    · have hln : S.length = 0 ∨ (vS S 0).length = sec.length := .inl h0
      have HLN := Lib.hid hln
      clear hln
      rw [h0] at HGD hl ⊢
      have HZ := Lib.hid h0
      clear h0
      cases hin : inside p sec with
      | false =>
        have he := xpE_in (p := p) (n := n) (h := h) HGT.out HLN.out hin
        rw [xpL_no (by rw [he]; decide), he]
        rw [hin] at HES
        clear he hin
        go_enter Tryd.func40, Tryd.ntmps40
        go_wp2_with fail
        refine ret_below HV.out ?_
        intro w1 hb1
        have hbw1 := below_trans (below_alloc _ _) hb1
        have HP1 := Lib.hid ((PlanCell.new (w := w) p n h rfl).below hb1)
        have p0 := HP1.out.c0
        have p1 := HP1.out.c1
        have p2 := HP1.out.c2
        go_wp2_with fail
        refine ret_below (HGD.out _ hbw1) ?_
        intro w2 hb2
        have hbw2 := below_trans hbw1 hb2
        have HP2 := Lib.hid (HP1.out.below hb2)
        clear p0 p1 p2
        have p0 := HP2.out.c0
        have p1 := HP2.out.c1
        have p2 := HP2.out.c2
        go_wp2_with fail
        refine ret_below (HES.out _ hbw2) ?_
        intro w3 hb3
        have hbw3 := below_trans hbw2 hb3
        have HP3 := Lib.hid (HP2.out.below hb3)
        clear p0 p1 p2
        have p0 := HP3.out.c0
        have p1 := HP3.out.c1
        have p2 := HP3.out.c2
        go_wp2_with fail
        go_ret2
        exact ShErr.nil _ hbw3
      | true =>
        rw [hin] at HES
        by_cases hbig : 2048 < sec.length
        · have he := xpE_few (p := p) (n := n) (h := h) HGT.out HLN.out hin (.inr hbig)
          rw [xpL_no (by rw [he]; decide), he]
          have f0 : ¬ ((n : Int) ≤ ((0 : Nat) : Int)) := by omega
          have f1 : (2048 : Int) < (sec.length : Int) := by omega
          clear he hin
          go_enter Tryd.func40, Tryd.ntmps40
          go_wp2_with fail
          refine ret_below HV.out ?_
          intro w1 hb1
          have hbw1 := below_trans (below_alloc _ _) hb1
          have HP1 := Lib.hid ((PlanCell.new (w := w) p n h rfl).below hb1)
          have p0 := HP1.out.c0
          have p1 := HP1.out.c1
          have p2 := HP1.out.c2
          go_wp2_with fail
          refine ret_below (HGD.out _ hbw1) ?_
          intro w2 hb2
          have hbw2 := below_trans hbw1 hb2
          have HP2 := Lib.hid (HP1.out.below hb2)
          clear p0 p1 p2
          have p0 := HP2.out.c0
          have p1 := HP2.out.c1
          have p2 := HP2.out.c2
          go_wp2_with fail
          refine ret_below (HES.out _ hbw2) ?_
          intro w3 hb3
          have hbw3 := below_trans hbw2 hb3
          have HP3 := Lib.hid (HP2.out.below hb3)
          clear p0 p1 p2
          have p0 := HP3.out.c0
          have p1 := HP3.out.c1
          have p2 := HP3.out.c2
          go_wp2_with fail
          go_ret2
          exact ShErr.nil _ hbw3
        have he := xpE_ok (p := p) (n := n) (h := h) HGT.out HLN.out hin (fun e => e.elim (fun e => by have := HZ.out; omega) hbig)
        rw [xpL_ok he, he]
        obtain ⟨hSN, hg⟩ := gd_nat (gdB_of HGT.out)
        obtain ⟨e1, e2⟩ := inside_nat hin
        have hs1 : (sec.map Int.toNat).length = sec.length := by simp
        have hSNl : (sec.map Int.toNat).length ≤ 2048 := by omega
        have hAn : NatsAt w B (sec.map Int.toNat) := IntsAt.nats (by rw [e1]; exact HI.out)
        have HAN := Lib.hid hAn
        have HG := Lib.hid hg
        have HSP := Lib.hid e2
        have HS1 := Lib.hid hs1
        have hNl : (natL S).length = 0 := by have h1 := natL_len S; have h2 := HZ.out; omega
        have HNL := Lib.hid hNl
        have HVL := Lib.hid (show ∀ k, k < (natL S).length → (vN (natL S) k).length = sec.length from fun k hk => by
          have hk' : k < S.length := by rw [natL_len] at hk; exact hk
          have h1 := hg.len k hk
          have h2 : (vN (natL S) 0).length = (vS S 0).length := by
            conv => rhs; rw [hSN]
            rw [vS_shL, len_ofN]
          rw [h1, h2]
          exact HLN.out.resolve_left (by omega))
        have HNS : Hid (ShP P0 w A ca (shL (natL S))) := by rw [← hSN]; exact HS.out
        have hf0 : ¬ ((n : Int) ≤ ((0 : Nat) : Int)) := by omega
        have hf1 : ¬ ((2048 : Int) < (sec.length : Int)) := by omega
        have hnl2 : 0 + 1 ≤ n := by omega
        have hhl : (hsN (natL S)).length = 0 := by rw [hsN_len]; exact hNl
        have HXLT := Lib.hid (show ∀ x ∈ hsN (natL S), x < p from fun x hx => by have := hs_rng hg x hx; omega)
        have HHO := Lib.hid (fun (W : World) (hb : Below w.heap.size w W) => holders_any A ca (natL S) W (HNS.out.below hb) (by rw [HNL.out]; omega))
        rw [hNl] at HHO
        have HVA := Lib.hid (fun (i : Nat) (hi : i < sec.length) (W : World) (hb : Below w.heap.size w W) => values_any A ca (natL S) i W (HNS.out.below hb) (by rw [HNL.out]; omega) (fun k hk => by rw [HVL.out k hk]; exact hi) (by omega))
        rw [hNl] at HVA
        have HHL := Lib.hid hhl
        have hcl : ∀ i, (colN (natL S) i).length = 0 := fun i => by rw [colN_len]; exact hNl
        have HCL := Lib.hid hcl
        clear he hin hbig hSN hg e1 e2 hs1 hAn hNl hhl hcl HS HI HZ HLN HGT
        generalize sec.map Int.toNat = SN at *
        generalize natL S = N at *
        go_enter Tryd.func40, Tryd.ntmps40
        go_wp2_with fail
        refine ret_below HV.out ?_
        intro w1 hb1
        have hbw1 := below_trans (below_alloc _ _) hb1
        have HP1 := Lib.hid ((PlanCell.new (w := w) p n h rfl).below hb1)
        have p0 := HP1.out.c0
        have p1 := HP1.out.c1
        have p2 := HP1.out.c2
        go_wp2_with fail
        refine ret_below (HGD.out _ hbw1) ?_
        intro w2 hb2
        have hbw2 := below_trans hbw1 hb2
        have HP2 := Lib.hid (HP1.out.below hb2)
        clear p0 p1 p2
        have p0 := HP2.out.c0
        have p1 := HP2.out.c1
        have p2 := HP2.out.c2
        go_wp2_with fail
        refine ret_below (HES.out _ hbw2) ?_
        intro w3 hb3
        have hbw3 := below_trans hbw2 hb3
        have HP3 := Lib.hid (HP2.out.below hb3)
        clear p0 p1 p2
        have p0 := HP3.out.c0
        have p1 := HP3.out.c1
        have p2 := HP3.out.c2
        go_wp2_with fail
        refine (HHO.out _ (hbw3.trans ((below_alloc _ _).mono hbw3.size))).mono ?_
        intro e w4 hnl
        obtain ⟨X0, c0x, rfl, hX0, hXo, -, hb4⟩ := hnl.open_
        have hbw4 : Below w3.heap.size w3 w4 := below_trans (below_alloc _ _) hb4
        have HO0 := Lib.hid (own_below ((lit1_nats w3 0).own (Nat.le_refl w3.heap.size) (by unfold maxLen; simp)) hb4)
        have hsz4 := hbw4.size
        have HX0 := Lib.hid hX0
        have HXO := Lib.hid hXo
        clear hnl hX0 hXo p0 p1 p2 hb4
        have HP4 := Lib.hid (HP3.out.below hbw4)
        have p0 := HP4.out.c0
        have p1 := HP4.out.c1
        have p2 := HP4.out.c2
        have lp4 := HP4.out.lt
        have HX1 : Hid ([0] ++ hsN N = xpX (hsN N) 0) := by unfold xpX fillN; exact (List.append_nil _).symm
        have hxl := xpX_len (hsN N) 0
        rw [HHL.out] at hxl
        have hx00 : (fillN (hsN N) 0).length = 0 := rfl
        rw [hx00] at hxl
        have HXLE := Lib.hid hxl
        clear hxl
        generalize hHS : hsN N = hs at *
        have HHS := Lib.hid hHS
        clear hHS hx00
        go_wp2_with (at_builtin; refine app_sl rfl (.tmp 57) (.tmp 59) rfl (base := w3.heap.size) (v := .slice (some ⟨w3.heap.size, 0, none⟩) 1 1) (S := [0]) hs X0 c0x rfl HO0.out rfl HX0.out (sl_none HXO.out) (.inr HXO.out.spot) (by simp only [List.length_cons, List.length_nil]; rw [HHL.out]; omega) hsz4 ?_; intro v5 w5 hown5 hb5; rw [HX1.out] at hown5; have q15 := (hb5.cell (p := ⟨w.heap.size, 1, none⟩) (by have := HP3.out.lt; simpa using this)).trans p1; obtain ⟨X5, x5c, rfl, -, -, -⟩ := own_sl hown5 rfl; have HO5 := Lib.hid hown5; clear hown5)
        have hbw5 : Below w3.heap.size w3 w5 := hbw4.trans hb5
        have HP5 := Lib.hid (HP3.out.below hbw5)
        have hsz5 := hbw5.size
        clear p0 p1 p2 q15 HX0 HXO HO0 hb5 hbw4 hsz4 HP4
        go_loopw [8, 9] (fun v i wr => ∃ j : Nat, i = .int .i64 ((j : Int) + 1) ∧ (xpX hs j).length ≤ n ∧ wr.ownsRow w3.heap.size 3 1 v (xpX hs j).length (valsN (xpX hs j)) ∧ Below w3.heap.size w3 wr) (fun _ i _ => n - (intOf i).toNat)
        case atStart => exact ⟨0, rfl, by have := HXLE.out; omega, HO5.out, hbw5⟩
        case round =>
          obtain ⟨j, rfl, hjl, hown, hbr⟩ := hrel
          have hmany := xpX_many hs j
          have hbwr := below_trans hbw3 hbr
          have hszr := hbr.size
          have hPr := HP3.out.below hbr
          have q0 := hPr.c0
          have q1 := hPr.c1
          have q2 := hPr.c2
          have HPr := Lib.hid hPr
          clear hPr
          obtain ⟨XA, xc, rfl, hXA, hXO, hXb⟩ := own_sl hown rfl
          have HXA := Lib.hid hXA
          have HXO := Lib.hid hXO
          have HXB := Lib.hid hXb
          have HOW := Lib.hid hown
          clear hXA hXO hXb hown
          by_cases hlt : (xpX hs j).length < n
          · have HCN := Lib.hid (containsN_any XA (xpX hs j) (j + 1) xc wr HXA.out (by omega))
            have HJL := Lib.hid hlt
            by_cases hmem : (j + 1) ∈ hs
            · rw [decide_eq_true (xpX_mem.2 hmem)] at HCN
              have HXE := Lib.hid (xpX_held hmem)
              clear hmem
              generalize hXX : xpX hs j = X at *
              go_wp2_with fail
              refine ret_below HCN.out ?_
              intro w6 hb6
              go_wp2_with fail
              go_roundw
              case rel => exact ⟨j + 1, by go_num, by rw [HXE.out]; exact hjl, by rw [HXE.out]; exact own_below HOW.out hb6, hbr.trans (hb6.mono hszr)⟩
              case measure => simp [intOf]; omega
            · rw [decide_eq_false (fun g => hmem (xpX_mem.1 g))] at HCN
              have HXE := Lib.hid (xpX_new hmem)
              clear hmem
              generalize hXX : xpX hs j = X at *
              go_wp2_with fail
              refine ret_below HCN.out ?_
              intro w6 hb6
              have HO6 := Lib.hid (own_below HOW.out hb6)
              have hsz6 : w3.heap.size ≤ w6.heap.size := Nat.le_trans hszr hb6.size
              have hb36 : Below w3.heap.size w3 w6 := hbr.trans (hb6.mono hszr)
              go_wp2_with (at_builtin; refine app_nats rfl (.tmp 72) (.tmp 74) rfl (base := w3.heap.size) (S := X) (T := [j + 1]) rfl (HO6.out.alloc _) rfl ((lit1_at _ _ (j + 1) rfl).nats.news rfl) (by simp; omega) (by simp; omega) ?_; intro v7 w7 hown7 hg7 hb7)
              go_roundw
              case rel => exact ⟨j + 1, by go_num, by rw [HXE.out, List.length_append]; simp; omega, by rw [HXE.out]; exact hown7, hb36.trans (below_of_alloc hb7 hsz6)⟩
              case measure => simp [intOf]; omega
          · have hxn : (xpX hs j).length = n := by omega
            have hjp : j < p := by omega
            have HTR := Lib.hid (fun e => thR_xp (sec := SN) HPN.out HG.out hjp e)
            have HRW := Lib.hid (xp_rows HPN.out HG.out HSP.out hjp)
            have hfl : N.length + 1 + (fillN (hsN N) j).length = n := by
              have := xpX_len hs j
              rw [HHL.out] at this
              rw [HNL.out, HHS.out]; omega
            have HXM := Lib.hid (xpM_of (p := p) (h := h) (sec := SN) hfl)
            have HXP := Lib.hid (show ∀ y ∈ xpX hs j, y < p from xpX_lt HXLT.out hjp)
            have HYP := Lib.hid (fun e => xpY_lt (K := N) (sec := SN) (c := (fillN (hsN N) j).length) (e := e) (p := p) (by omega) (fun k hk => (HG.out.rng k hk).2.2) HSP.out)
            have HYL := Lib.hid (fun e => xpY_len N SN (fillN (hsN N) j).length e)
            have hcN : (fillN (hsN N) j).length + (0 + 1) = n := by rw [HNL.out] at hfl; omega
            have HYE := Lib.hid (fun e => xpY_lit N SN (fillN (hsN N) j).length e)
            have HRL := Lib.hid (show (explN p h N SN j).length = h by unfold explN; exact exN_len _ _ _ _ _)
            rw [HHS.out] at HTR HRW HYP HYL HYE hcN
            generalize (fillN hs j).length = cF at *
            generalize explN p h N SN j = RES at *
            clear hfl hmany
            generalize hXX : xpX hs j = X at *
            have HXN := Lib.hid hxn
            go_wp2_with fail
            refine (newDealer_any p n h _ (by omega)).mono ?_
            rintro e w6 ⟨d, base, rfl, hdw, hD, hb6⟩
            have hdb := hD.1
            have hdz := hD.2.1
            have HD0 : Hid (DlrAt w6 d base p n h (exT p h 0 (fun e => thN p X (xpY N SN cF e)))) := by rw [exT_zero]; exact hD
            clear hD q0 q1 q2 HOW
            go_wp2_with fail
            go_loopw [80] (fun i wr => ∃ m : Nat, m ≤ sec.length ∧ i = .int .i64 m ∧ DlrAt wr d base p n h (exT p h m (fun e => thN p X (xpY N SN cF e))) ∧ Below base w6 wr) (fun i _ => sec.length - (intOf i).toNat)
            case atStart => exact ⟨0, Nat.zero_le _, rfl, HD0.out, Below.refl _ _⟩
            case round =>
              obtain ⟨m, hm, rfl, hDl, hbl⟩ := hrel
              have hbl6 := hb6.trans (hbl.mono (by omega))
              have hbwl := below_trans hbwr hbl6
              have HDl := Lib.hid hDl
              have hDB : base ≤ wr.heap.size := hDl.2.1
              clear hDl
              by_cases hlm : m < sec.length
              · obtain ⟨bA, oA, rfl, hbA, hcA⟩ := (HAN.out.below hbwl) m (by rw [HS1.out]; exact hlm)
                have HST := Lib.hid (exT_succ p h m (fun e => thN p X (xpY N SN cF e)))
                have HPl := Lib.hid (HPr.out.below hbl6)
                have q0 := HPl.out.c0
                have hxs : nthN SN m < p := nthN_lt (by omega) HSP.out m
                have HVm := Lib.hid (HVA.out m hlm)
                have HYm := Lib.hid (HYE.out m)
                have HYLm := Lib.hid (HYL.out m)
                have HYPm := Lib.hid (HYP.out m)
                have HTm := Lib.hid (HTR.out m)
                have HCm := Lib.hid (HCL.out m)
                have HTL := Lib.hid (exT_len p h m (fun e => thN p X (xpY N SN cF e)))
                have HTA := Lib.hid (fun j (hj : j < h) => exT_at (p := p) (m := m) (F := fun e => thN p X (xpY N SN cF e)) hj)
                generalize hF : thN p X (xpY N SN cF m) = f at HTm HST
                have hfl : f.length ≤ n := by rw [← hF]; exact Nat.le_trans (thN_len _ _ _) (by rw [HXN.out]; exact Nat.le_refl _)
                have HFP := Lib.hid (show ∀ x ∈ f, x < p by rw [← hF]; exact thN_lt (by omega) _ _)
                clear hF
                generalize exT p h m (fun e => thN p X (xpY N SN cF e)) = T at *
                generalize xpY N SN cF m = Y at *
                generalize nthN SN m = x at *
                generalize colN N m = col at *
                have HX7 := Lib.hid (HXA.out.below hbl6)
                go_wp2_with fail
                refine (HVm.out _ (hbwl.trans ((below_alloc _ _).mono hbwl.size))).mono ?_
                intro e w7 hnl
                obtain ⟨V7, v7c, rfl, hV7, hVo, -, hb7⟩ := hnl.open_
                have hbw7 : Below wr.heap.size wr w7 := below_trans (below_alloc _ _) hb7
                have HO7 := Lib.hid (own_below ((lit1_nats wr x).own (Nat.le_refl wr.heap.size) (by unfold maxLen; simp)) hb7)
                have hsz7 := hbw7.size
                have HV7 := Lib.hid hV7
                have HVO := Lib.hid hVo
                obtain ⟨zs, hzs⟩ : ∃ zs, zs = [x] ++ col := ⟨_, rfl⟩
                have hzl : zs.length = 1 + 0 := by rw [hzs, List.length_append, HCm.out]; rfl
                have HZS := Lib.hid hzs.symm
                rw [← hzs] at HYm
                have ecs : IntKind.i64.wrap ((n : Int) - (zs.length : Int)) = (cF : Int) := by rw [IntWalk.i64_in _ (by omega)]; omega
                have hcol1 : zs.length ≤ 8 := by omega
                have hcol0 : 0 < zs.length := by omega
                have HZL := Lib.hid hzl
                clear hzs hzl
                have HT0 := Lib.hid (fun (W : World) (Ya : Option Addr) (yc : Nat) (hX : NatsAt W XA X) (hY : NatsAt W Ya Y) => through_any p XA Ya X Y xc yc W (by omega) (by omega) hX hY HXP.out HYPm.out (by rw [HXN.out]; omega))
                rw [HTm.out.1, HTm.out.2, HXN.out] at HT0
                clear hnl hV7 hVo hb7
                have HDEAL := Lib.hid (fun (W : World) (Fa : Option Addr) (fc : Nat) (hb : Below wr.heap.size wr W) (hF : NatsAt W Fa f) (hFb : ∀ b off, Fa = some ⟨b, off, none⟩ → wr.heap.size ≤ b ∧ b < W.heap.size) => deal_goT HDl.out hb hF hFb fc (show 1 ≤ p by omega) (by omega) HFP.out (fun j hj => by rw [HTL.out] at hj; obtain ⟨g1, g2⟩ := HTA.out j hj; rw [g1, g2]; exact ⟨by omega, by simp; omega⟩) (by rw [HTL.out]; omega) (by omega))
                have q07 := (hbw7.cell (p := ⟨w.heap.size, 0, none⟩) (by have := HPl.out.lt; simpa using this)).trans q0
                have lpl := HPl.out.lt
                go_wp2_with (first
                  | (at_builtin; refine app_sl rfl (.tmp 86) (.tmp 89) rfl (base := wr.heap.size) (v := .slice (some ⟨wr.heap.size, 0, none⟩) 1 1) (S := [x]) col V7 v7c rfl HO7.out rfl HV7.out (sl_none HVO.out) (.inr HVO.out.spot) (by simp only [List.length_cons, List.length_nil]; rw [HCm.out]; omega) hsz7 ?_; intro v8 w8 hown8 hb8; rw [HZS.out] at hown8; have hbw8 : Below wr.heap.size wr w8 := hbw7.trans hb8; have hsz8 := hbw8.size; obtain ⟨Y8, y8c, rfl, -, -, -⟩ := own_sl hown8 rfl; have HO8 := Lib.hid hown8; clear hown8)
                  | (at_builtin; refine app_zeros rfl (.tmp 91) (.tmp 96) rfl (base := wr.heap.size) (S := zs) cF rfl HO8.out hcol0 rfl (by omega) hsz8 ?_; intro v9 w9 hown9 hb9; rw [HYm.out] at hown9; have hbw9 : Below wr.heap.size wr w9 := hbw8.trans hb9; have q09 := (hbw9.cell (p := ⟨w.heap.size, 0, none⟩) lpl).trans q0; obtain ⟨Y9, y9c, rfl, hY9, -, -⟩ := own_sl hown9 rfl; have HY9 := Lib.hid hY9; clear hY9 hown9)
                  | (go_at_call 63; refine (HT0.out _ Y9 y9c (HX7.out.below hbw9) HY9.out).mono ?_; rintro e w10 ⟨Fa, fc, rfl, hFN, hFO, hFb, hb10⟩; have hbw10 : Below wr.heap.size wr w10 := below_trans hbw9 hb10; have HFN := Lib.hid hFN; have HFB := Lib.hid (show ∀ b off, Fa = some ⟨b, off, none⟩ → wr.heap.size ≤ b ∧ b < w10.heap.size from fun b off e => ⟨Nat.le_trans hbw9.size (hFb b off e).1, (hFb b off e).2⟩); clear hFN hFb)
                  | (go_at_call 46; refine (HDEAL.out _ Fa fc hbw10 HFN.out HFB.out).mono ?_; rintro e w11 ⟨rfl, hD11, hb11⟩))
                have HD11 := Lib.hid (And.intro hD11 (hbl.trans ((hbw10.mono hDB).trans hb11)))
                clear hD11 hb11
                go_roundw
                case rel => exact ⟨m + 1, by omega, by go_num, by rw [← HST.out]; exact HD11.out.1, HD11.out.2⟩
                case measure => simp [intOf]; omega
              · obtain rfl : m = sec.length := by omega
                obtain ⟨-, -, v, H, hbox, hR2⟩ := HDl.out
                obtain ⟨XR, cx, rfl, hXR⟩ := hR2.read
                obtain ⟨-, c3, -⟩ := dlr_box hbox
                have hRE : exT p h sec.length (fun e => thN p X (xpY N SN cF e)) = RES := by
                  have := HRW.out
                  rw [HS1.out] at this
                  exact this
                have hX2 : ShP (fun b => w.heap.size ≤ b) wr XR cx (shL RES) := by rw [← hRE]; exact hXR.mono (fun b _ hb => by have := hbwr.size; omega)
                have hlen : RES.length = (exT p h sec.length (fun e => thN p X (xpY N SN cF e))).length := by rw [hRE]
                have HX := Lib.hid (And.intro hX2 hlen)
                clear hXR hX2 hlen hbox hR2 hRE
                go_wp2_with fail
                go_ret2
                rw [HXM.out]
                exact ⟨XR, cx, by rw [shL_len, HX.out.2]; rfl, HX.out.1, hbwl⟩

    · obtain ⟨b, off, B0, c0, rfl, hb0, -, q0, q1, -⟩ := HS.out.at_ 0 h0
      rw [Nat.zero_mul, Nat.add_zero] at q1
      have g0 : (0 : Int) < (S.length : Int) := by omega
      clear q0
      by_cases hsl : (vS S 0).length = sec.length
      · have hln : S.length = 0 ∨ (vS S 0).length = sec.length := .inr hsl
        have HLN := Lib.hid hln
        have t0 : (((vS S 0).length : Int) != (sec.length : Int)) = false := by simp; omega
        have HZ := Lib.hid (show S.length = S.length from rfl)
        clear hln hsl
        cases hin : inside p sec with
        | false =>
          have he := xpE_in (p := p) (n := n) (h := h) HGT.out HLN.out hin
          rw [xpL_no (by rw [he]; decide), he]
          rw [hin] at HES
          clear he hin
          go_enter Tryd.func40, Tryd.ntmps40
          go_wp2_with fail
          refine ret_below HV.out ?_
          intro w1 hb1
          have hbw1 := below_trans (below_alloc _ _) hb1
          have HP1 := Lib.hid ((PlanCell.new (w := w) p n h rfl).below hb1)
          have p0 := HP1.out.c0
          have p1 := HP1.out.c1
          have p2 := HP1.out.c2
          go_wp2_with fail
          refine ret_below (HGD.out _ hbw1) ?_
          intro w2 hb2
          have hbw2 := below_trans hbw1 hb2
          have HP2 := Lib.hid (HP1.out.below hb2)
          clear p0 p1 p2
          have p0 := HP2.out.c0
          have p1 := HP2.out.c1
          have p2 := HP2.out.c2
          have u1 := (hbw2.cell (p := ⟨b, off + 1, none⟩) hb0).trans q1
          go_wp2_with fail
          refine ret_below (HES.out _ hbw2) ?_
          intro w3 hb3
          have hbw3 := below_trans hbw2 hb3
          have HP3 := Lib.hid (HP2.out.below hb3)
          clear p0 p1 p2
          have p0 := HP3.out.c0
          have p1 := HP3.out.c1
          have p2 := HP3.out.c2
          go_wp2_with fail
          go_ret2
          exact ShErr.nil _ hbw3
        | true =>
          rw [hin] at HES
          by_cases hfew : n ≤ S.length
          · have he := xpE_few (p := p) (n := n) (h := h) HGT.out HLN.out hin (.inl hfew)
            rw [xpL_no (by rw [he]; decide), he]
            have f1 : (n : Int) ≤ (S.length : Int) := by omega
            clear he hin
            go_enter Tryd.func40, Tryd.ntmps40
            go_wp2_with fail
            refine ret_below HV.out ?_
            intro w1 hb1
            have hbw1 := below_trans (below_alloc _ _) hb1
            have HP1 := Lib.hid ((PlanCell.new (w := w) p n h rfl).below hb1)
            have p0 := HP1.out.c0
            have p1 := HP1.out.c1
            have p2 := HP1.out.c2
            go_wp2_with fail
            refine ret_below (HGD.out _ hbw1) ?_
            intro w2 hb2
            have hbw2 := below_trans hbw1 hb2
            have HP2 := Lib.hid (HP1.out.below hb2)
            clear p0 p1 p2
            have p0 := HP2.out.c0
            have p1 := HP2.out.c1
            have p2 := HP2.out.c2
            have u1 := (hbw2.cell (p := ⟨b, off + 1, none⟩) hb0).trans q1
            go_wp2_with fail
            refine ret_below (HES.out _ hbw2) ?_
            intro w3 hb3
            have hbw3 := below_trans hbw2 hb3
            have HP3 := Lib.hid (HP2.out.below hb3)
            clear p0 p1 p2
            have p0 := HP3.out.c0
            have p1 := HP3.out.c1
            have p2 := HP3.out.c2
            go_wp2_with fail
            go_ret2
            exact ShErr.nil _ hbw3
          by_cases hbig : 2048 < sec.length
          · have he := xpE_few (p := p) (n := n) (h := h) HGT.out HLN.out hin (.inr hbig)
            rw [xpL_no (by rw [he]; decide), he]
            have f0 : ¬ ((n : Int) ≤ ((S.length : Nat) : Int)) := by omega
            have f1 : (2048 : Int) < (sec.length : Int) := by omega
            clear he hin
            go_enter Tryd.func40, Tryd.ntmps40
            go_wp2_with fail
            refine ret_below HV.out ?_
            intro w1 hb1
            have hbw1 := below_trans (below_alloc _ _) hb1
            have HP1 := Lib.hid ((PlanCell.new (w := w) p n h rfl).below hb1)
            have p0 := HP1.out.c0
            have p1 := HP1.out.c1
            have p2 := HP1.out.c2
            go_wp2_with fail
            refine ret_below (HGD.out _ hbw1) ?_
            intro w2 hb2
            have hbw2 := below_trans hbw1 hb2
            have HP2 := Lib.hid (HP1.out.below hb2)
            clear p0 p1 p2
            have p0 := HP2.out.c0
            have p1 := HP2.out.c1
            have p2 := HP2.out.c2
            have u1 := (hbw2.cell (p := ⟨b, off + 1, none⟩) hb0).trans q1
            go_wp2_with fail
            refine ret_below (HES.out _ hbw2) ?_
            intro w3 hb3
            have hbw3 := below_trans hbw2 hb3
            have HP3 := Lib.hid (HP2.out.below hb3)
            clear p0 p1 p2
            have p0 := HP3.out.c0
            have p1 := HP3.out.c1
            have p2 := HP3.out.c2
            go_wp2_with fail
            go_ret2
            exact ShErr.nil _ hbw3
          have he := xpE_ok (p := p) (n := n) (h := h) HGT.out HLN.out hin (fun e => e.elim (fun e => by have := HZ.out; omega) hbig)
          rw [xpL_ok he, he]
          obtain ⟨hSN, hg⟩ := gd_nat (gdB_of HGT.out)
          obtain ⟨e1, e2⟩ := inside_nat hin
          have hs1 : (sec.map Int.toNat).length = sec.length := by simp
          have hSNl : (sec.map Int.toNat).length ≤ 2048 := by omega
          have hAn : NatsAt w B (sec.map Int.toNat) := IntsAt.nats (by rw [e1]; exact HI.out)
          have HAN := Lib.hid hAn
          have HG := Lib.hid hg
          have HSP := Lib.hid e2
          have HS1 := Lib.hid hs1
          have hNl : (natL S).length = S.length := by have h1 := natL_len S; have h2 := HZ.out; omega
          have HNL := Lib.hid hNl
          have HVL := Lib.hid (show ∀ k, k < (natL S).length → (vN (natL S) k).length = sec.length from fun k hk => by
            have hk' : k < S.length := by rw [natL_len] at hk; exact hk
            have h1 := hg.len k hk
            have h2 : (vN (natL S) 0).length = (vS S 0).length := by
              conv => rhs; rw [hSN]
              rw [vS_shL, len_ofN]
            rw [h1, h2]
            exact HLN.out.resolve_left (by omega))
          have HNS : Hid (ShP P0 w (some ⟨b, off, none⟩) ca (shL (natL S))) := by rw [← hSN]; exact HS.out
          have hf0 : ¬ ((n : Int) ≤ ((S.length : Nat) : Int)) := by omega
          have hf1 : ¬ ((2048 : Int) < (sec.length : Int)) := by omega
          have hnl2 : S.length + 1 ≤ n := by omega
          have hhl : (hsN (natL S)).length = S.length := by rw [hsN_len]; exact hNl
          have HXLT := Lib.hid (show ∀ x ∈ hsN (natL S), x < p from fun x hx => by have := hs_rng hg x hx; omega)
          have HHO := Lib.hid (fun (W : World) (hb : Below w.heap.size w W) => holders_any (some ⟨b, off, none⟩) ca (natL S) W (HNS.out.below hb) (by rw [HNL.out]; omega))
          rw [hNl] at HHO
          have HVA := Lib.hid (fun (i : Nat) (hi : i < sec.length) (W : World) (hb : Below w.heap.size w W) => values_any (some ⟨b, off, none⟩) ca (natL S) i W (HNS.out.below hb) (by rw [HNL.out]; omega) (fun k hk => by rw [HVL.out k hk]; exact hi) (by omega))
          rw [hNl] at HVA
          have HHL := Lib.hid hhl
          have hcl : ∀ i, (colN (natL S) i).length = S.length := fun i => by rw [colN_len]; exact hNl
          have HCL := Lib.hid hcl
          clear he hin hbig hSN hg e1 e2 hs1 hAn hNl hhl hcl HS HI HZ HLN HGT
          generalize sec.map Int.toNat = SN at *
          generalize natL S = N at *
          go_enter Tryd.func40, Tryd.ntmps40
          go_wp2_with fail
          refine ret_below HV.out ?_
          intro w1 hb1
          have hbw1 := below_trans (below_alloc _ _) hb1
          have HP1 := Lib.hid ((PlanCell.new (w := w) p n h rfl).below hb1)
          have p0 := HP1.out.c0
          have p1 := HP1.out.c1
          have p2 := HP1.out.c2
          go_wp2_with fail
          refine ret_below (HGD.out _ hbw1) ?_
          intro w2 hb2
          have hbw2 := below_trans hbw1 hb2
          have HP2 := Lib.hid (HP1.out.below hb2)
          clear p0 p1 p2
          have p0 := HP2.out.c0
          have p1 := HP2.out.c1
          have p2 := HP2.out.c2
          have u1 := (hbw2.cell (p := ⟨b, off + 1, none⟩) hb0).trans q1
          go_wp2_with fail
          refine ret_below (HES.out _ hbw2) ?_
          intro w3 hb3
          have hbw3 := below_trans hbw2 hb3
          have HP3 := Lib.hid (HP2.out.below hb3)
          clear p0 p1 p2
          have p0 := HP3.out.c0
          have p1 := HP3.out.c1
          have p2 := HP3.out.c2
          go_wp2_with fail
          refine (HHO.out _ (hbw3.trans ((below_alloc _ _).mono hbw3.size))).mono ?_
          intro e w4 hnl
          obtain ⟨X0, c0x, rfl, hX0, hXo, -, hb4⟩ := hnl.open_
          have hbw4 : Below w3.heap.size w3 w4 := below_trans (below_alloc _ _) hb4
          have HO0 := Lib.hid (own_below ((lit1_nats w3 0).own (Nat.le_refl w3.heap.size) (by unfold maxLen; simp)) hb4)
          have hsz4 := hbw4.size
          have HX0 := Lib.hid hX0
          have HXO := Lib.hid hXo
          clear hnl hX0 hXo p0 p1 p2 hb4
          have HP4 := Lib.hid (HP3.out.below hbw4)
          have p0 := HP4.out.c0
          have p1 := HP4.out.c1
          have p2 := HP4.out.c2
          have lp4 := HP4.out.lt
          have HX1 : Hid ([0] ++ hsN N = xpX (hsN N) 0) := by unfold xpX fillN; exact (List.append_nil _).symm
          have hxl := xpX_len (hsN N) 0
          rw [HHL.out] at hxl
          have hx00 : (fillN (hsN N) 0).length = 0 := rfl
          rw [hx00] at hxl
          have HXLE := Lib.hid hxl
          clear hxl
          generalize hHS : hsN N = hs at *
          have HHS := Lib.hid hHS
          clear hHS hx00
          go_wp2_with (at_builtin; refine app_sl rfl (.tmp 57) (.tmp 59) rfl (base := w3.heap.size) (v := .slice (some ⟨w3.heap.size, 0, none⟩) 1 1) (S := [0]) hs X0 c0x rfl HO0.out rfl HX0.out (sl_none HXO.out) (.inr HXO.out.spot) (by simp only [List.length_cons, List.length_nil]; rw [HHL.out]; omega) hsz4 ?_; intro v5 w5 hown5 hb5; rw [HX1.out] at hown5; have q15 := (hb5.cell (p := ⟨w.heap.size, 1, none⟩) (by have := HP3.out.lt; simpa using this)).trans p1; obtain ⟨X5, x5c, rfl, -, -, -⟩ := own_sl hown5 rfl; have HO5 := Lib.hid hown5; clear hown5)
          have hbw5 : Below w3.heap.size w3 w5 := hbw4.trans hb5
          have HP5 := Lib.hid (HP3.out.below hbw5)
          have hsz5 := hbw5.size
          clear p0 p1 p2 q15 HX0 HXO HO0 hb5 hbw4 hsz4 HP4
          go_loopw [8, 9] (fun v i wr => ∃ j : Nat, i = .int .i64 ((j : Int) + 1) ∧ (xpX hs j).length ≤ n ∧ wr.ownsRow w3.heap.size 3 1 v (xpX hs j).length (valsN (xpX hs j)) ∧ Below w3.heap.size w3 wr) (fun _ i _ => n - (intOf i).toNat)
          case atStart => exact ⟨0, rfl, by have := HXLE.out; omega, HO5.out, hbw5⟩
          case round =>
            obtain ⟨j, rfl, hjl, hown, hbr⟩ := hrel
            have hmany := xpX_many hs j
            have hbwr := below_trans hbw3 hbr
            have hszr := hbr.size
            have hPr := HP3.out.below hbr
            have q0 := hPr.c0
            have q1 := hPr.c1
            have q2 := hPr.c2
            have HPr := Lib.hid hPr
            clear hPr
            obtain ⟨XA, xc, rfl, hXA, hXO, hXb⟩ := own_sl hown rfl
            have HXA := Lib.hid hXA
            have HXO := Lib.hid hXO
            have HXB := Lib.hid hXb
            have HOW := Lib.hid hown
            clear hXA hXO hXb hown
            by_cases hlt : (xpX hs j).length < n
            · have HCN := Lib.hid (containsN_any XA (xpX hs j) (j + 1) xc wr HXA.out (by omega))
              have HJL := Lib.hid hlt
              by_cases hmem : (j + 1) ∈ hs
              · rw [decide_eq_true (xpX_mem.2 hmem)] at HCN
                have HXE := Lib.hid (xpX_held hmem)
                clear hmem
                generalize hXX : xpX hs j = X at *
                go_wp2_with fail
                refine ret_below HCN.out ?_
                intro w6 hb6
                go_wp2_with fail
                go_roundw
                case rel => exact ⟨j + 1, by go_num, by rw [HXE.out]; exact hjl, by rw [HXE.out]; exact own_below HOW.out hb6, hbr.trans (hb6.mono hszr)⟩
                case measure => simp [intOf]; omega
              · rw [decide_eq_false (fun g => hmem (xpX_mem.1 g))] at HCN
                have HXE := Lib.hid (xpX_new hmem)
                clear hmem
                generalize hXX : xpX hs j = X at *
                go_wp2_with fail
                refine ret_below HCN.out ?_
                intro w6 hb6
                have HO6 := Lib.hid (own_below HOW.out hb6)
                have hsz6 : w3.heap.size ≤ w6.heap.size := Nat.le_trans hszr hb6.size
                have hb36 : Below w3.heap.size w3 w6 := hbr.trans (hb6.mono hszr)
                go_wp2_with (at_builtin; refine app_nats rfl (.tmp 72) (.tmp 74) rfl (base := w3.heap.size) (S := X) (T := [j + 1]) rfl (HO6.out.alloc _) rfl ((lit1_at _ _ (j + 1) rfl).nats.news rfl) (by simp; omega) (by simp; omega) ?_; intro v7 w7 hown7 hg7 hb7)
                go_roundw
                case rel => exact ⟨j + 1, by go_num, by rw [HXE.out, List.length_append]; simp; omega, by rw [HXE.out]; exact hown7, hb36.trans (below_of_alloc hb7 hsz6)⟩
                case measure => simp [intOf]; omega
            · have hxn : (xpX hs j).length = n := by omega
              have hjp : j < p := by omega
              have HTR := Lib.hid (fun e => thR_xp (sec := SN) HPN.out HG.out hjp e)
              have HRW := Lib.hid (xp_rows HPN.out HG.out HSP.out hjp)
              have hfl : N.length + 1 + (fillN (hsN N) j).length = n := by
                have := xpX_len hs j
                rw [HHL.out] at this
                rw [HNL.out, HHS.out]; omega
              have HXM := Lib.hid (xpM_of (p := p) (h := h) (sec := SN) hfl)
              have HXP := Lib.hid (show ∀ y ∈ xpX hs j, y < p from xpX_lt HXLT.out hjp)
              have HYP := Lib.hid (fun e => xpY_lt (K := N) (sec := SN) (c := (fillN (hsN N) j).length) (e := e) (p := p) (by omega) (fun k hk => (HG.out.rng k hk).2.2) HSP.out)
              have HYL := Lib.hid (fun e => xpY_len N SN (fillN (hsN N) j).length e)
              have hcN : (fillN (hsN N) j).length + (S.length + 1) = n := by rw [HNL.out] at hfl; omega
              have HYE := Lib.hid (fun e => xpY_lit N SN (fillN (hsN N) j).length e)
              have HRL := Lib.hid (show (explN p h N SN j).length = h by unfold explN; exact exN_len _ _ _ _ _)
              rw [HHS.out] at HTR HRW HYP HYL HYE hcN
              generalize (fillN hs j).length = cF at *
              generalize explN p h N SN j = RES at *
              clear hfl hmany
              generalize hXX : xpX hs j = X at *
              have HXN := Lib.hid hxn
              go_wp2_with fail
              refine (newDealer_any p n h _ (by omega)).mono ?_
              rintro e w6 ⟨d, base, rfl, hdw, hD, hb6⟩
              have hdb := hD.1
              have hdz := hD.2.1
              have HD0 : Hid (DlrAt w6 d base p n h (exT p h 0 (fun e => thN p X (xpY N SN cF e)))) := by rw [exT_zero]; exact hD
              clear hD q0 q1 q2 HOW
              go_wp2_with fail
              go_loopw [80] (fun i wr => ∃ m : Nat, m ≤ sec.length ∧ i = .int .i64 m ∧ DlrAt wr d base p n h (exT p h m (fun e => thN p X (xpY N SN cF e))) ∧ Below base w6 wr) (fun i _ => sec.length - (intOf i).toNat)
              case atStart => exact ⟨0, Nat.zero_le _, rfl, HD0.out, Below.refl _ _⟩
              case round =>
                obtain ⟨m, hm, rfl, hDl, hbl⟩ := hrel
                have hbl6 := hb6.trans (hbl.mono (by omega))
                have hbwl := below_trans hbwr hbl6
                have HDl := Lib.hid hDl
                have hDB : base ≤ wr.heap.size := hDl.2.1
                clear hDl
                by_cases hlm : m < sec.length
                · obtain ⟨bA, oA, rfl, hbA, hcA⟩ := (HAN.out.below hbwl) m (by rw [HS1.out]; exact hlm)
                  have HST := Lib.hid (exT_succ p h m (fun e => thN p X (xpY N SN cF e)))
                  have HPl := Lib.hid (HPr.out.below hbl6)
                  have q0 := HPl.out.c0
                  have hxs : nthN SN m < p := nthN_lt (by omega) HSP.out m
                  have HVm := Lib.hid (HVA.out m hlm)
                  have HYm := Lib.hid (HYE.out m)
                  have HYLm := Lib.hid (HYL.out m)
                  have HYPm := Lib.hid (HYP.out m)
                  have HTm := Lib.hid (HTR.out m)
                  have HCm := Lib.hid (HCL.out m)
                  have HTL := Lib.hid (exT_len p h m (fun e => thN p X (xpY N SN cF e)))
                  have HTA := Lib.hid (fun j (hj : j < h) => exT_at (p := p) (m := m) (F := fun e => thN p X (xpY N SN cF e)) hj)
                  generalize hF : thN p X (xpY N SN cF m) = f at HTm HST
                  have hfl : f.length ≤ n := by rw [← hF]; exact Nat.le_trans (thN_len _ _ _) (by rw [HXN.out]; exact Nat.le_refl _)
                  have HFP := Lib.hid (show ∀ x ∈ f, x < p by rw [← hF]; exact thN_lt (by omega) _ _)
                  clear hF
                  generalize exT p h m (fun e => thN p X (xpY N SN cF e)) = T at *
                  generalize xpY N SN cF m = Y at *
                  generalize nthN SN m = x at *
                  generalize colN N m = col at *
                  have HX7 := Lib.hid (HXA.out.below hbl6)
                  go_wp2_with fail
                  refine (HVm.out _ (hbwl.trans ((below_alloc _ _).mono hbwl.size))).mono ?_
                  intro e w7 hnl
                  obtain ⟨V7, v7c, rfl, hV7, hVo, -, hb7⟩ := hnl.open_
                  have hbw7 : Below wr.heap.size wr w7 := below_trans (below_alloc _ _) hb7
                  have HO7 := Lib.hid (own_below ((lit1_nats wr x).own (Nat.le_refl wr.heap.size) (by unfold maxLen; simp)) hb7)
                  have hsz7 := hbw7.size
                  have HV7 := Lib.hid hV7
                  have HVO := Lib.hid hVo
                  obtain ⟨zs, hzs⟩ : ∃ zs, zs = [x] ++ col := ⟨_, rfl⟩
                  have hzl : zs.length = 1 + S.length := by rw [hzs, List.length_append, HCm.out]; rfl
                  have HZS := Lib.hid hzs.symm
                  rw [← hzs] at HYm
                  have ecs : IntKind.i64.wrap ((n : Int) - (zs.length : Int)) = (cF : Int) := by rw [IntWalk.i64_in _ (by omega)]; omega
                  have hcol1 : zs.length ≤ 8 := by omega
                  have hcol0 : 0 < zs.length := by omega
                  have HZL := Lib.hid hzl
                  clear hzs hzl
                  have HT0 := Lib.hid (fun (W : World) (Ya : Option Addr) (yc : Nat) (hX : NatsAt W XA X) (hY : NatsAt W Ya Y) => through_any p XA Ya X Y xc yc W (by omega) (by omega) hX hY HXP.out HYPm.out (by rw [HXN.out]; omega))
                  rw [HTm.out.1, HTm.out.2, HXN.out] at HT0
                  clear hnl hV7 hVo hb7
                  have HDEAL := Lib.hid (fun (W : World) (Fa : Option Addr) (fc : Nat) (hb : Below wr.heap.size wr W) (hF : NatsAt W Fa f) (hFb : ∀ b off, Fa = some ⟨b, off, none⟩ → wr.heap.size ≤ b ∧ b < W.heap.size) => deal_goT HDl.out hb hF hFb fc (show 1 ≤ p by omega) (by omega) HFP.out (fun j hj => by rw [HTL.out] at hj; obtain ⟨g1, g2⟩ := HTA.out j hj; rw [g1, g2]; exact ⟨by omega, by simp; omega⟩) (by rw [HTL.out]; omega) (by omega))
                  have q07 := (hbw7.cell (p := ⟨w.heap.size, 0, none⟩) (by have := HPl.out.lt; simpa using this)).trans q0
                  have lpl := HPl.out.lt
                  go_wp2_with (first
                    | (at_builtin; refine app_sl rfl (.tmp 86) (.tmp 89) rfl (base := wr.heap.size) (v := .slice (some ⟨wr.heap.size, 0, none⟩) 1 1) (S := [x]) col V7 v7c rfl HO7.out rfl HV7.out (sl_none HVO.out) (.inr HVO.out.spot) (by simp only [List.length_cons, List.length_nil]; rw [HCm.out]; omega) hsz7 ?_; intro v8 w8 hown8 hb8; rw [HZS.out] at hown8; have hbw8 : Below wr.heap.size wr w8 := hbw7.trans hb8; have hsz8 := hbw8.size; obtain ⟨Y8, y8c, rfl, -, -, -⟩ := own_sl hown8 rfl; have HO8 := Lib.hid hown8; clear hown8)
                    | (at_builtin; refine app_zeros rfl (.tmp 91) (.tmp 96) rfl (base := wr.heap.size) (S := zs) cF rfl HO8.out hcol0 rfl (by omega) hsz8 ?_; intro v9 w9 hown9 hb9; rw [HYm.out] at hown9; have hbw9 : Below wr.heap.size wr w9 := hbw8.trans hb9; have q09 := (hbw9.cell (p := ⟨w.heap.size, 0, none⟩) lpl).trans q0; obtain ⟨Y9, y9c, rfl, hY9, -, -⟩ := own_sl hown9 rfl; have HY9 := Lib.hid hY9; clear hY9 hown9)
                    | (go_at_call 63; refine (HT0.out _ Y9 y9c (HX7.out.below hbw9) HY9.out).mono ?_; rintro e w10 ⟨Fa, fc, rfl, hFN, hFO, hFb, hb10⟩; have hbw10 : Below wr.heap.size wr w10 := below_trans hbw9 hb10; have HFN := Lib.hid hFN; have HFB := Lib.hid (show ∀ b off, Fa = some ⟨b, off, none⟩ → wr.heap.size ≤ b ∧ b < w10.heap.size from fun b off e => ⟨Nat.le_trans hbw9.size (hFb b off e).1, (hFb b off e).2⟩); clear hFN hFb)
                    | (go_at_call 46; refine (HDEAL.out _ Fa fc hbw10 HFN.out HFB.out).mono ?_; rintro e w11 ⟨rfl, hD11, hb11⟩))
                  have HD11 := Lib.hid (And.intro hD11 (hbl.trans ((hbw10.mono hDB).trans hb11)))
                  clear hD11 hb11
                  go_roundw
                  case rel => exact ⟨m + 1, by omega, by go_num, by rw [← HST.out]; exact HD11.out.1, HD11.out.2⟩
                  case measure => simp [intOf]; omega
                · obtain rfl : m = sec.length := by omega
                  obtain ⟨-, -, v, H, hbox, hR2⟩ := HDl.out
                  obtain ⟨XR, cx, rfl, hXR⟩ := hR2.read
                  obtain ⟨-, c3, -⟩ := dlr_box hbox
                  have hRE : exT p h sec.length (fun e => thN p X (xpY N SN cF e)) = RES := by
                    have := HRW.out
                    rw [HS1.out] at this
                    exact this
                  have hX2 : ShP (fun b => w.heap.size ≤ b) wr XR cx (shL RES) := by rw [← hRE]; exact hXR.mono (fun b _ hb => by have := hbwr.size; omega)
                  have hlen : RES.length = (exT p h sec.length (fun e => thN p X (xpY N SN cF e))).length := by rw [hRE]
                  have HX := Lib.hid (And.intro hX2 hlen)
                  clear hXR hX2 hlen hbox hR2 hRE
                  go_wp2_with fail
                  go_ret2
                  rw [HXM.out]
                  exact ⟨XR, cx, by rw [shL_len, HX.out.2]; rfl, HX.out.1, hbwl⟩

      · have he := xpE_len (p := p) (n := n) (h := h) (sec := sec) (S := S) (fun e => e.elim (fun e => by omega) hsl)
        have t0 : (((vS S 0).length : Int) != (sec.length : Int)) = true := by simp; omega
        rw [xpL_no (by rw [he]; decide), he]
        clear hsl he
        go_enter Tryd.func40, Tryd.ntmps40
        go_wp2_with fail
        refine ret_below HV.out ?_
        intro w1 hb1
        have hbw1 := below_trans (below_alloc _ _) hb1
        have HP1 := Lib.hid ((PlanCell.new (w := w) p n h rfl).below hb1)
        have p0 := HP1.out.c0
        have p1 := HP1.out.c1
        have p2 := HP1.out.c2
        go_wp2_with fail
        refine ret_below (HGD.out _ hbw1) ?_
        intro w2 hb2
        have hbw2 := below_trans hbw1 hb2
        have HP2 := Lib.hid (HP1.out.below hb2)
        clear p0 p1 p2
        have p0 := HP2.out.c0
        have p1 := HP2.out.c1
        have p2 := HP2.out.c2
        have u1 := (hbw2.cell (p := ⟨b, off + 1, none⟩) hb0).trans q1
        go_wp2_with fail
        go_ret2
        exact ShErr.nil _ hbw2
end Go.Proofs.YtkjpnhhkebbmdaaDoor
namespace Go.Proofs.YtkjpnhhkebbmdaaDoor
open Go.RowKit Go.Maps

/-! ### The map -/
theorem Sn_map (L : List Nat) : ∀ k, k ≤ L.length → IsMap (Sn (H := Unit) L k)
  | 0, _ => by rw [Sn_zero]; exact isMap_empty
  | k + 1, hk => by rw [Sn_succ L k (by omega)]; exact (Sn_map L k (by omega)).put _ _
theorem Sn_at (L : List Nat) (x : Nat) : ∀ k, k ≤ L.length → (Sn (H := Unit) L k).atKey (keyL x) (.lit (.bool false)) = .lit (.bool (decide (x ∈ L.take k)))
  | 0, _ => by rw [Sn_zero]; simp; rfl
  | k + 1, hk => by
    rw [Sn_succ L k (by omega)]
    have hmem : x ∈ L.take (k + 1) ↔ x ∈ L.take k ∨ x = nthN L k := by
      rw [List.take_succ_eq_append_getElem (by omega), List.mem_append, nthN_eq (by omega)]; simp
    by_cases hx : x = nthN L k
    · rw [← hx, atKey_put_same (Sn_map L k (by omega)) (keyL_key x), decide_eq_true (hmem.2 (.inr hx))]
    · rw [atKey_put_other (fun e => hx (by unfold keyL at e; injection e with _ e; omega)), Sn_at L x k (by omega)]
      congr 2
      rw [decide_eq_decide, hmem]
      exact ⟨.inl, fun h => h.resolve_right hx⟩
theorem zeroB (w : World) : (zeroValue 4).run Tryd.prog w = .ok (.bool false) w := by kernel_rfl
theorem look_bool {w : World} {b n : Nat} {D : DataW Unit} (h : w.ownsMap Tryd.prog 3 (plainElem Tryd.prog 4) b n D) {x : Nat} (hx : x ≤ 4294967296) {bb : Bool} (hD : D.atKey (keyL x) (.lit (.bool false)) = .lit (.bool bb)) :
    (Instr.lookup 92 (.map (some b)) (.int .i64 (x : Int)) false).run Tryd.prog w = .ok (.bool bb) w := by
  have hkey : keyOf Tryd.prog 3 (.int .i64 (x : Nat)) = some (keyL x) := Maps.keyOf_int_mk Tryd.underlying3 (wf_i64 (by omega) (by omega))
  obtain ⟨v, ps, hrun, hv⟩ := h.lookup lawI Tryd.underlying92 (zeroB w) (plainElem_bool Tryd.underlying4 false) hkey
  rw [hD] at hv
  have : v = .bool bb := by
    cases v with
    | bool x =>
      rw [plainElem_bool Tryd.underlying4 x] at hv
      simp only [Option.some.injEq, Prod.mk.injEq, DataW.lit.injEq, Lit.bool.injEq] at hv
      rw [hv.1]
    | _ => simp [plainElem, Tryd.underlying4] at hv
  rw [this] at hrun; exact hrun
theorem map_keep {w w' : World} {b n : Nat} {D : DataW Unit} (h : w.ownsMap Tryd.prog 3 (plainElem Tryd.prog 4) b n D) (hb : w'.heap[b]? = w.heap[b]?) : w'.ownsMap Tryd.prog 3 (plainElem Tryd.prog 4) b n D := by
  obtain ⟨es, clock, h0, r⟩ := h
  exact ⟨es, clock, hb.trans h0, r⟩

/-! ### Shares made at once -/
def nilH (n : Nat) : List HV := List.replicate n (0, .slice none 0 0)
theorem nilH_at {n k : Nat} (h : k < n) : hvAt (nilH n) k = (0, .slice none 0 0) := by simp [hvAt, nilH, List.getD_eq_getElem?_getD, h]
theorem made_sh (n : Nat) : madeCells (Value.agg #[.int .i64 0, .slice none 0 0]).cells (n * 2) = (flatH (nilH n)).toArray := by
  have hl : (flatH (nilH n)).length = n * 2 := by rw [flatH_len]; simp [nilH]
  apply Array.ext
  · rw [size_madeCells]; simp [hl]
  · intro i h1 h2
    rw [size_madeCells] at h1
    have hk : i / 2 < n := by omega
    obtain ⟨f1, f2⟩ := flatH_at (nilH n) (i / 2) (by simp [nilH]; omega)
    rw [nilH_at hk] at f1 f2
    have e : (flatH (nilH n)).toArray[i] = (flatH (nilH n))[i]'(by rw [hl]; exact h1) := by simp
    rw [e]
    have hc : (Value.agg #[.int .i64 0, .slice none 0 0]).cells = #[.int .i64 0, .slice none 0 0] := rfl
    rcases Nat.mod_two_eq_zero_or_one i with hm | hm
    · have hi : i / 2 * 2 = i := by omega
      rw [hi] at f1
      have := (List.getElem?_eq_some_iff.1 f1).2
      rw [this]
      simp [madeCells, hc, hm]
    · have hi : i / 2 * 2 + 1 = i := by omega
      rw [hi] at f2
      have := (List.getElem?_eq_some_iff.1 f2).2
      rw [this]
      simp [madeCells, hc, hm]
theorem run_make_sh (n : Nat) (w : World) (h : n ≤ 1000) : (Instr.makeSlice 37 (.int .i64 (n : Int)) (.int .i64 (n : Int))).run Tryd.prog w = .ok (.slice (some ⟨w.heap.size, 0, none⟩) n n) (w.alloc (.cells (flatH (nilH n)).toArray 47)) := by
  obtain ⟨i, hi, hz0, hz1, hz2⟩ := info_parts info_share
  have := run_make (P := Tryd.prog) w 37 47 i _ Tryd.underlying37 hi hz0 .i64 .i64 n n (by omega) (Int.le_refl _) (by rw [hz2]; omega) (by omega)
  rw [Int.toNat_natCast, hz1, made_sh] at this
  exact this
theorem own_made (w : World) (n : Nat) (h : n ≤ 1000) : HvOwn (w.alloc (.cells (flatH (nilH n)).toArray 47)) w.heap.size (.slice (some ⟨w.heap.size, 0, none⟩) n n) (nilH n) := by
  have hn : (nilH n).length = n := by simp [nilH]
  unfold HvOwn
  rw [hn]
  refine ⟨by rw [flatH_len, hn], .inr ⟨w.heap.size, n, _, rfl, Nat.le_refl _, heap_alloc_new _ _, Nat.le_refl _, by unfold maxLen; omega, by simp [flatH_len, hn], ?_⟩⟩
  rw [List.toList_toArray, List.take_of_length_le (by rw [flatH_len, hn]; exact Nat.le_refl _)]
/-- The first k of them have got their holders. -/
def hhL (h k : Nat) : List HV := (List.range h).map fun j => (((if j < k then j + 1 else 0 : Nat) : Int), .slice none 0 0)
theorem hhL_len (h k : Nat) : (hhL h k).length = h := by simp [hhL]
theorem hhL_at {h k j : Nat} (hj : j < h) : hvAt (hhL h k) j = (((if j < k then j + 1 else 0 : Nat) : Int), .slice none 0 0) := by simp [hvAt, hhL, List.getD_eq_getElem?_getD, hj]
theorem hv_ext {H K : List HV} (hl : H.length = K.length) (h : ∀ j, j < H.length → hvAt H j = hvAt K j) : H = K := by
  refine List.ext_getElem hl fun j h1 h2 => ?_
  have := h j h1
  simpa [hvAt, List.getD_eq_getElem?_getD, h1, h2] using this
theorem hhL_zero (h : Nat) : nilH h = hhL h 0 := hv_ext (by simp [nilH, hhL]) fun j hj => by
  have hj : j < h := by simpa [nilH] using hj
  rw [nilH_at hj, hhL_at hj]; simp
theorem hhL_succ {h k : Nat} (hk : k < h) : (hhL h k).set k ((k : Int) + 1, (hvAt (hhL h k) k).2) = hhL h (k + 1) := by
  refine hv_ext (by simp [hhL]) fun j hj0 => ?_
  have hj : j < h := by simpa [hhL] using hj0
  clear hj0
  by_cases hjk : j = k
  · subst hjk
    rw [hvAt_set_same _ _ _ (by rw [hhL_len]; exact hj), hhL_at (k := j) hj, hhL_at (k := j + 1) hj, if_pos (show j < j + 1 from Nat.lt_succ_self j)]
    simp
  · rw [hvAt_set_other _ _ _ _ (Ne.symm hjk), hhL_at hj, hhL_at hj]
    by_cases h1 : j < k
    · rw [if_pos h1, if_pos (by omega)]
    · rw [if_neg h1, if_neg (by omega)]
theorem rows_hh {w : World} {base g h c : Nat} (H : HvOwn w base (.slice (some ⟨g, 0, none⟩) h c) (hhL h h)) : Rows2 w base (.slice (some ⟨g, 0, none⟩) h c) (hhL h h) (emptyT h) := by
  have he : ∀ j, j < h → hN (emptyT h) j = j + 1 ∧ vN (emptyT h) j = [] := fun j hj => by simp [emptyT, hN, vN, List.getD_eq_getElem?_getD, hj]
  refine ⟨H, by rw [hhL_len, emptyT_len], fun k hk => ?_, fun k hk => ?_, fun i j hi hj _ b e => ?_, fun i hi b e => ?_⟩
  · rw [emptyT_len] at hk
    rw [hhL_at hk, (he k hk).1, if_pos hk]
  · rw [emptyT_len] at hk
    rw [hhL_at hk, (he k hk).2]
    exact World.ownsRow_nil _ _ _ _
  · rw [emptyT_len] at hi
    rw [hhL_at hi] at e; cases e
  · rw [emptyT_len] at hi
    rw [hhL_at hi] at e; cases e

/-! ### Two lists under way -/
theorem app_two {ops : Array Oper} {rest : List Oper} {o : Oper} {a : Act} {Q : Exit → Act → World → Prop} (hgd : o.guard = none) (s x : Operand)
    (ho : o.op = .call { callee := .builtin .append, args := #[s, x], argTypes := #[22, 22] })
    {w0 W : World} {base lo g : Nat} {vx vy : Value} {X Y : List Nat} {y : Nat} (hs : a.eval s = vx) (hx : a.eval x = .slice (some ⟨g, 0, none⟩) 1 1)
    (hT : Two w0 W base lo vx X vy Y) (hL : NatBlk W g [y]) (hl : X.length ≤ 4194304)
    (h : ∀ v' w', Two w0 w' base lo v' (X ++ [y]) vy Y → wpList Tryd.prog ops Q rest (a.put o.dst v') w') :
    wpList Tryd.prog ops Q (o :: rest) a W := by
  refine app_nats_at hgd s x ho hs hT.ox hx (T := [y]) (hL.nats.news rfl) (by simp; omega) hT.size ?_
  intro v' w' hown hg hB hat
  refine h v' w' ⟨hown, ?_, ?_, hT.below.trans hB, Nat.le_trans hT.size hg.size, Nat.le_trans hT.up hg.size⟩
  · refine hT.oy.kept hg ?_
    rcases hy : vy.ownBlock with _ | b
    · exact .inl rfl
    · exact .inr (fun e => hT.ne b e.symm hy)
  · intro b e1 e2
    rcases hat with e | e
    · exact hT.ne b (by rw [← e]; exact e1) e2
    · rw [e] at e1
      injection e1 with e1
      subst e1
      have := (hT.oy.lt _ e2).2; omega
theorem Two.forms {w0 W : World} {base lo : Nat} {vx vy : Value} {X Y : List Nat} (h : Two w0 W base lo vx X vy Y) : ∃ A c B c', vx = .slice A X.length c ∧ vy = .slice B Y.length c' := by
  obtain ⟨A, c, rfl, -⟩ := own_sl h.ox rfl
  obtain ⟨B, c', rfl, -⟩ := own_sl h.oy rfl
  exact ⟨A, c, B, c', rfl, rfl⟩
theorem own_one {w : World} {base n c : Nat} {B : Option Addr} {e : TypeId} {xs : List Value} (h : w.ownsRow base e 1 (.slice B n c) n xs) (h0 : 0 < n) : ∃ b, B = some ⟨b, 0, none⟩ ∧ base ≤ b ∧ b < w.heap.size := by
  have hlt := World.ownsRow.lt h
  rcases h.2 with ⟨_, h2⟩ | ⟨g, cap, cur, hv, hg, hh, -⟩
  · omega
  · injection hv with e1 e2 e3
    subst e1
    exact ⟨g, rfl, hg, (hlt g rfl).2⟩
/-- A list made later lies in none of the rows. -/
theorem far_new {w : World} {base lo : Nat} {v : Value} {H : List HV} {T : List ShN} (h : Rows2 w base v H T) {F : Option Addr} (hF : ∀ b off, F = some ⟨b, off, none⟩ → w.heap.size ≤ b) : FarF F v H T.length := fun bF off e =>
  ⟨fun i hi b e2 => by have h1 := hF bF off e; have h2 := (World.ownsRow.lt (h.row i hi) b e2).2; omega, fun b e2 => by have h1 := hF bF off e; have h2 := (World.ownsRow.lt h.out b e2).2; omega⟩
theorem Two.ge {w0 W : World} {base lo : Nat} {A B : Option Addr} {c c' : Nat} {X Y : List Nat} (h : Two w0 W base lo (.slice A X.length c) X (.slice B Y.length c') Y) : (∀ b off, A = some ⟨b, off, none⟩ → base ≤ b ∧ b < W.heap.size) ∧ ∀ b off, B = some ⟨b, off, none⟩ → base ≤ b ∧ b < W.heap.size := by
  obtain ⟨_, _, hv, _, _, h3⟩ := own_sl h.ox rfl
  injection hv with e1 _ e3
  subst e1; subst e3
  obtain ⟨_, _, hv, _, _, h4⟩ := own_sl h.oy rfl
  injection hv with e1 _ e3
  subst e1; subst e3
  exact ⟨h3, h4⟩
end Go.Proofs.YtkjpnhhkebbmdaaDoor
