/-
  Gifts: what the program does to one share, in place.
  Gifts of the own: each share changed in place.
  Gifts of the own: the program's each.
  append(s, make([]int, m)...): zeros onto a row of the own.
  Copies of shares, by the program.
  A region that draws its order: what holds of it whatever the order, told by what each operation leaves behind it.
  A region's operations, one by one.
  Rows of elements of any width, in memory: those that came in, and those of the call's own.
  A region's operations, one by one: addresses, sums, literals, append.
  Conditions: those that each theorem names.
-/
import Derived.Test.YtjckpammcgeloaaDoorM4
import Derived.StillTailTactics
import Derived.RegionTactic
import Derived.Conc.EntryLaws
import Derived.Deep.AppendLies
set_option linter.unusedVariables false
set_option linter.unusedSimpArgs false
namespace Go.Proofs.YtjckpammcgeloaaDoor
open Go.RowKit

theorem enter_all1 (args : Array Value) (w : World) : (callFunc 58 args).run Tryd.prog w = .ok (.enter 58 args) w :=
  Go.MuLone.run_callFunc_enter Tryd.func58 (by kernel_rfl) rfl args w
theorem enter_spoil1 (args : Array Value) (w : World) : (callFunc 41 args).run Tryd.prog w = .ok (.enter 41 args) w :=
  Go.MuLone.run_callFunc_enter Tryd.func41 (by kernel_rfl) rfl args w

theorem cellB_lt {w : World} {b o : Nat} {v : Value} (h : w.cell? ⟨b, o, none⟩ = some v) : b < w.heap.size := by
  rcases Nat.lt_or_ge b w.heap.size with hlt | hge
  · exact hlt
  · unfold World.cell? at h; rw [Array.getElem?_eq_none hge] at h; cases h
set_option maxHeartbeats 400000 in
theorem spoil1_any (g o gb : Nat) (h x : Int) (w : World) (hc : w.cell? ⟨gb, 0, none⟩ = some (.int .i64 h)) (hs : w.cell? ⟨g, o, none⟩ = some (.int .i64 x)) (hf : w.frozen? ⟨g, o, none⟩ = false) :
    Calls Tryd.prog 41 #[.pointer (some ⟨g, o, none⟩), .pointer (some ⟨gb, 0, none⟩)] w (fun e w' => e = .returned (.tuple #[]) ∧ w' = w.setCell ⟨g, o, none⟩ (.int .i64 h)) := by
  go_enter Tryd.func41, Tryd.ntmps41
  go_wp2
  go_end0
  exact ⟨rfl, rfl⟩

/-! ### Each value made greater -/
def emI (p : Nat) (x : Int) : Int := x % p
def faI (p : Nat) (a b : Int) : Int := (a + b) % p
theorem emI_rng {p : Nat} (hp : 1 ≤ p) (x : Int) : 0 ≤ emI p x ∧ emI p x < p := ⟨Int.emod_nonneg _ (by omega), Int.emod_lt_of_pos _ (by omega)⟩
def shv (p : Nat) (c x : Int) : Int := faI p (emI p x) c
def shvL (p : Nat) (c : Int) (L : List Int) : List Int := L.map (shv p c)
theorem shvL_len (p : Nat) (c : Int) (L : List Int) : (shvL p c L).length = L.length := by simp [shvL]
/-- So far the first k are greater. -/
def shvK (p : Nat) (c : Int) (L : List Int) (k : Nat) : List Int := shvL p c (L.take k) ++ L.drop k
theorem shvK_len (p : Nat) (c : Int) (L : List Int) (k : Nat) : (shvK p c L k).length = L.length := by simp [shvK, shvL]; omega
theorem shvK_zero (p : Nat) (c : Int) (L : List Int) : shvK p c L 0 = L := by simp [shvK, shvL]
theorem shvK_all (p : Nat) (c : Int) (L : List Int) : shvK p c L L.length = shvL p c L := by simp [shvK]
theorem shvK_at {p : Nat} {c : Int} {L : List Int} {k : Nat} (hk : k < L.length) : nth (shvK p c L k) k = nth L k := by
  rw [nth_eq (by rw [shvK_len]; exact hk), nth_eq hk]
  unfold shvK
  rw [List.getElem_append_right (by simp [shvL]; omega)]
  simp [shvL, Nat.min_eq_left (Nat.le_of_lt hk)]
theorem shvK_set {p : Nat} {c : Int} {L : List Int} {k : Nat} (hk : k < L.length) : (shvK p c L k).set k (shv p c (nth L k)) = shvK p c L (k + 1) := by
  have hl : (shvL p c (L.take k)).length = k := by simp [shvL]; omega
  unfold shvK
  rw [List.set_append_right _ _ (by omega), hl, Nat.sub_self, List.drop_eq_getElem_cons hk, List.set_cons_zero, take_snoc_getD L k hk, nth_eq hk]
  simp only [shvL, List.map_append, List.map_cons, List.map_nil, List.append_assoc, List.singleton_append]
theorem shv_rng {p : Nat} (hp : 1 ≤ p) (c x : Int) : 0 ≤ shv p c x ∧ shv p c x < p := by unfold shv faI; exact ⟨Int.emod_nonneg _ (by omega), Int.emod_lt_of_pos _ (by omega)⟩
theorem elemP_any (p : Nat) (n : Int) (w : World) (hp : 1 ≤ p) (hp2 : p ≤ 2147483648) :
    Calls Tryd.prog 57 #[.int .i64 p, .int .i64 n] w (Ret (.int .i64 (emI p n)) w) := by
  have := element_any p n w (by omega)
  rwa [modI_ge _ _ (by omega)] at this
theorem addP_any (p : Nat) (a b : Int) (w : World) (hp : 1 ≤ p) (hp2 : p ≤ 2147483648) (ha : 0 ≤ a ∧ a < p) (hb : 0 ≤ b ∧ b ≤ p) :
    Calls Tryd.prog 56 #[.int .i64 p, .int .i64 a, .int .i64 b] w (Ret (.int .i64 (faI p a b)) w) := by
  have := add_any p a b w (by omega) (by omega)
  rwa [modI_ge _ _ (by omega)] at this
/-- A row of the own with numbers in it lies in a block. -/
theorem own_blk {w : World} {base n : Nat} {v : Value} {L : List Int} (h : w.ownsRow base 3 1 v n (valsI L)) (hn : n = L.length) (h0 : 0 < L.length) : ∃ g c, v = .slice (some ⟨g, 0, none⟩) n c ∧ g < w.heap.size ∧ base ≤ g ∧ n ≤ c ∧ c ≤ maxLen ∧ (∀ j, j < L.length → w.cell? ⟨g, j, none⟩ = some (.int .i64 (nth L j))) ∧ ∀ j, w.frozen? ⟨g, j, none⟩ = false := by
  subst hn
  rcases h.2 with ⟨_, h1⟩ | ⟨g, cap, cur, rfl, hg, hh, hnc, hcm, hcs, htk⟩
  · omega
  · refine ⟨g, cap, rfl, blk_lt hh, hg, hnc, hcm, fun j hj => ?_, fun j => by simp [World.frozen?, hh]⟩
    have := World.ownsRow.cellAt h (j := j) (by omega)
    rw [this, List.getElem?_map, nth_eq hj, List.getElem?_eq_getElem hj]; rfl

set_option maxRecDepth 100000 in
set_option maxHeartbeats 4000000 in
theorem all1_any (p : Nat) (c : Int) (g o px mx base : Nat) (v : Value) (L : List Int) (w : World) (hp : 1 ≤ p) (hp2 : p ≤ 2147483648) (hc : 0 ≤ c ∧ c < p) (h1 : w.cell? ⟨g, o + 1, none⟩ = some v) (hr : w.ownsRow base 3 1 v L.length (valsI L)) (hl : L.length ≤ 1048576)
    (hpx : w.cell? ⟨px, 0, none⟩ = some (.int .i64 p)) (hmx : w.cell? ⟨mx, 0, none⟩ = some (.int .i64 c)) (ng : v.ownBlock ≠ some g) (np : v.ownBlock ≠ some px) (nm : v.ownBlock ≠ some mx) :
    Calls Tryd.prog 58 #[.pointer (some ⟨g, o, none⟩), .pointer (some ⟨px, 0, none⟩), .pointer (some ⟨mx, 0, none⟩)] w
      (fun e w' => e = .returned (.tuple #[]) ∧ Sav (fun b => v.ownBlock = some b) w w' ∧ w'.ownsRow base 3 1 v (shvL p c L).length (valsI (shvL p c L))) := by
  obtain ⟨A, cap, hv, -⟩ := own_ints hr rfl
  have HR := Lib.hid hr
  have hlg := cellB_lt h1
  have hlp := cellB_lt hpx
  have hlm := cellB_lt hmx
  have C1 := Lib.hid h1
  have CP := Lib.hid hpx
  have CM := Lib.hid hmx
  subst hv
  obtain ⟨hc0, hcp⟩ := hc
  clear hr hpx hmx
  go_enter Tryd.func58, Tryd.ntmps58
  go_wp2_with fail
  go_loopw [11] (fun i wr => ∃ k : Nat, k ≤ L.length ∧ i = .int .i64 k ∧ wr.ownsRow base 3 1 (.slice A L.length cap) L.length (valsI (shvK p c L k)) ∧ Sav (fun b => (Value.slice A L.length cap).ownBlock = some b) w wr) (fun i _ => L.length - (intOf i).toNat)
  case atStart => exact ⟨0, Nat.zero_le _, rfl, by rw [shvK_zero]; exact HR.out, Sav.refl _ _⟩
  case round =>
    obtain ⟨k, hk, rfl, hown, hsv⟩ := hrel
    by_cases hlt : k < L.length
    · obtain ⟨vb, cap', e, hvb, hbb, hnc, hcm, hcell, hfr⟩ := own_blk hown (by rw [shvK_len]) (by rw [shvK_len]; omega)
      injection e with e1 e2 e3
      subst e1; subst e3
      have q0 := hcell k (by rw [shvK_len]; exact hlt)
      rw [shvK_at hlt] at q0
      have qf := hfr k
      have x1 := (hsv.cell (o := o + 1) hlg ng).trans C1.out
      have xp := (hsv.cell (o := 0) hlp np).trans CP.out
      have xm := (hsv.cell (o := 0) hlm nm).trans CM.out
      have i0 : (0 : Int) ≤ (k : Int) := by omega
      have i1 : (k : Int) < (L.length : Int) := by omega
      have HSET := Lib.hid (show ((wr.drew).setCell ⟨vb, k, none⟩ (.int .i64 (shv p c (nth L k)))).ownsRow base 3 1 (.slice (some ⟨vb, 0, none⟩) L.length cap) L.length (valsI (shvK p c L (k + 1))) from by
        have := own_set (w := wr.drew) hown (by rw [shvK_len]) k (by rw [shvK_len]; exact hlt) (shv p c (nth L k))
        rwa [shvK_set hlt] at this)
      have HSV := Lib.hid (hsv.trans ((Sav.of_below (Below.refl _ _).drew).trans (Sav.set wr.drew ⟨vb, k, none⟩ (.int .i64 (shv p c (nth L k))) rfl)))
      have hx1 := emI_rng hp (nth L k)
      have HE := Lib.hid (show faI p (emI p (nth L k)) c = shv p c (nth L k) from rfl)
      generalize hx : nth L k = x at *
      clear hx hown hsv hcell hfr h1 ng np nm
      go_wp2_with fail
      refine wp_region_still_tail 14 (by kernel_rfl) (by kernel_rfl) ?_
      simp only [List.take_succ_cons, List.take_zero, List.drop_succ_cons, List.drop_zero]
      repeat still_step
      still_call (elemP_any p x _ hp hp2)
      repeat still_step
      still_call (addP_any p (emI p x) c _ hp hp2 hx1 ⟨hc0, Int.le_of_lt hcp⟩)
      repeat still_step
      refine wpStill_nil ?_
      rw [HE.out]
      go_wp2_with fail
      go_roundw
      case rel => exact ⟨k + 1, by omega, by go_num, HSET.out, HSV.out⟩
      case measure => simp [intOf]; omega
    · obtain rfl : k = L.length := by omega
      rw [shvK_all] at hown
      have HX := Lib.hid hown
      have HS := Lib.hid hsv
      clear hown hsv
      go_wp2_with fail
      go_end0
      exact ⟨rfl, HS.out, by rw [shvL_len]; exact HX.out⟩
end Go.Proofs.YtjckpammcgeloaaDoor
namespace Go.Proofs.YtjckpammcgeloaaDoor
open Go.RowKit

theorem results_gift {fn : Func} {t : Tmp} (h : fn.results = #[.cell t 37]) (tmps : Array Value) (w : World) (g : Nat) (hp : tmps.getD t undef = .pointer (some ⟨g, 0, none⟩)) {x kh : Int} {b v kv : Value} (hX : GiftCell w g x b v kh kv) :
    (results fn tmps).run Tryd.prog w = .ok (giftV x b v kh kv) w :=
  results_cell_row h tmps w g 37 _ (0, 0) _ hp hX Tryd.underlying37 rfl (by kernel_rfl)
theorem results_gift3 {fn : Func} {t u s : Tmp} (h : fn.results = #[.cell t 37, .tmp u, .tmp s]) (tmps : Array Value) (w : World) (g : Nat) (hp : tmps.getD t undef = .pointer (some ⟨g, 0, none⟩)) {x kh : Int} {b v kv : Value} (hX : GiftCell w g x b v kh kv) :
    (results fn tmps).run Tryd.prog w = .ok (.tuple #[giftV x b v kh kv, tmps.getD u undef, tmps.getD s undef]) w := by
  have hp' : tmps[t]?.getD undef = .pointer (some ⟨g, 0, none⟩) := by simpa using hp
  have hr := run_loadVar_row (P := Tryd.prog) w g 37 37 _ (0, 0) _ hX Tryd.underlying37 rfl (by kernel_rfl)
  simp [results, h, hp', asAddr, hr]

/-- A gift of the own: rows of shares, and the row of the key's numbers, none in another's blocks. -/
structure OwnG (w : World) (base : Nat) (bv wv kv : Value) (Hb Hw : List HV) (G : GiftD) : Prop where
  sb : RowsI w base bv Hb G.bx
  sw : RowsI w base wv Hw G.wh
  sk : w.ownsRow base 3 1 kv G.kv.length (valsI G.kv)
  bw : ∀ x, blkV bv Hb x → blkV wv Hw x → False
  bk : ∀ x, blkV bv Hb x → kv.ownBlock = some x → False
  wk : ∀ x, blkV wv Hw x → kv.ownBlock = some x → False
def blkG (bv wv kv : Value) (Hb Hw : List HV) (x : Nat) : Prop := blkV bv Hb x ∨ blkV wv Hw x ∨ kv.ownBlock = some x
theorem OwnG.blk {w : World} {base : Nat} {bv wv kv : Value} {Hb Hw : List HV} {G : GiftD} (h : OwnG w base bv wv kv Hb Hw G) {x : Nat} (hx : blkG bv wv kv Hb Hw x) : base ≤ x ∧ x < w.heap.size := by
  rcases hx with hx | hx | hx
  · exact h.sb.blk hx
  · exact h.sw.blk hx
  · exact World.ownsRow.lt h.sk x hx
theorem OwnG.sav {X : Nat → Prop} {w w' : World} {base : Nat} {bv wv kv : Value} {Hb Hw : List HV} {G : GiftD} (h : OwnG w base bv wv kv Hb Hw G) (hs : Sav X w w') (hX : ∀ x, blkG bv wv kv Hb Hw x → ¬ X x) : OwnG w' base bv wv kv Hb Hw G :=
  ⟨h.sb.sav hs (fun b hb => hX b (.inl hb)), h.sw.sav hs (fun b hb => hX b (.inr (.inl hb))), own_sav h.sk hs (fun b hb => hX b (.inr (.inr hb))), h.bw, h.bk, h.wk⟩
theorem OwnG.below {w w' : World} {base : Nat} {bv wv kv : Value} {Hb Hw : List HV} {G : GiftD} (h : OwnG w base bv wv kv Hb Hw G) (hb : Below w.heap.size w w') : OwnG w' base bv wv kv Hb Hw G :=
  h.sav (X := fun _ => False) (Sav.of_below hb) (fun _ _ => id)
theorem OwnG.below' {w w' : World} {base B : Nat} {bv wv kv : Value} {Hb Hw : List HV} {G : GiftD} (h : OwnG w base bv wv kv Hb Hw G) (hb : Below B w w') (hB : w.heap.size ≤ B) : OwnG w' base bv wv kv Hb Hw G := h.below (hb.mono hB)
theorem row_slice {w : World} {base : Nat} {v : Value} {H : List HV} {S : List Shr} (h : RowsI w base v H S) : ∃ A c, v = .slice A S.length c := by
  obtain ⟨A, c, e, -⟩ := h.read; exact ⟨A, c, e⟩
theorem OwnG.read {w : World} {base : Nat} {bv wv kv : Value} {Hb Hw : List HV} {G : GiftD} (h : OwnG w base bv wv kv Hb Hw G) : GiftR (fun b => base ≤ b) w (giftV G.h bv wv G.kh kv) G := by
  obtain ⟨A, ca, rfl, h1⟩ := h.sb.read
  obtain ⟨B, cb, rfl, h2⟩ := h.sw.read
  obtain ⟨C, cc, rfl, h3, h4, h5⟩ := own_ints h.sk rfl
  exact ⟨A, ca, B, cb, C, cc, rfl, h1, h2, h3, h4, fun b off e => .inr (h5 b off e).1⟩

/-! ### Each share of a row changed -/
def mapK (f : Shr → Shr) (S : List Shr) (k : Nat) : List Shr := (S.take k).map f ++ S.drop k
theorem mapK_len (f : Shr → Shr) (S : List Shr) (k : Nat) : (mapK f S k).length = S.length := by simp [mapK]; omega
theorem mapK_zero (f : Shr → Shr) (S : List Shr) : mapK f S 0 = S := by simp [mapK]
theorem mapK_all (f : Shr → Shr) (S : List Shr) : mapK f S S.length = S.map f := by simp [mapK]
theorem mapK_at {f : Shr → Shr} {S : List Shr} {k : Nat} (hk : k < S.length) : hS (mapK f S k) k = hS S k ∧ vS (mapK f S k) k = vS S k := by
  have hl : ((S.take k).map f).length = k := by simp; omega
  have : (mapK f S k)[k]? = S[k]? := by
    unfold mapK
    rw [List.getElem?_append_right (by omega), hl, Nat.sub_self, List.getElem?_drop]; rfl
  simp only [hS, vS, List.getD_eq_getElem?_getD, this, and_self]
theorem mapK_set {f : Shr → Shr} {S : List Shr} {k : Nat} (hk : k < S.length) : (mapK f S k).set k (f (hS S k, vS S k)) = mapK f S (k + 1) := by
  have hl : ((S.take k).map f).length = k := by simp; omega
  unfold mapK
  rw [List.set_append_right _ _ (by omega), hl, Nat.sub_self, List.drop_eq_getElem_cons hk, List.set_cons_zero, hSv_take hk]
  simp only [List.map_append, List.map_cons, List.map_nil, List.append_assoc, List.singleton_append]
/-- What a function does to a share that lies anywhere, where the blocks E stand as they stood in w. -/
def ShFn (n : Nat) (us : Array Value) (E : Nat → Prop) (w : World) (base M : Nat) (f : Shr → Shr) : Prop :=
  ∀ (W : World) (g o : Nat) (v : Value) (x : Int) (L : List Int), Sav (fun b => ¬ E b) w W → W.cell? ⟨g, o, none⟩ = some (.int .i64 x) → W.cell? ⟨g, o + 1, none⟩ = some v → W.frozen? ⟨g, o, none⟩ = false →
    W.ownsRow base 3 1 v L.length (valsI L) → L.length ≤ M → v.ownBlock ≠ some g → (∀ b, v.ownBlock = some b → ¬ E b) → ¬ E g →
    Calls Tryd.prog n (#[.pointer (some ⟨g, o, none⟩)] ++ us) W (fun e w2 => e = .returned (.tuple #[]) ∧ Chg W w2 g o base v (f (x, L)).1 (f (x, L)).2)
def mapG (f : Shr → Shr) (G : GiftD) : GiftD := ⟨G.h, G.bx.map f, G.wh.map f, (f (G.kh, G.kv)).1, (f (G.kh, G.kv)).2⟩
/-- The gift, changed; the blocks X alone have turned. -/
def EachP (X : Nat → Prop) (base : Nat) (bv wv kv : Value) (G : GiftD) (w : World) (e : Ending) (w' : World) : Prop :=
  ∃ Hb Hw, e = .returned (giftV G.h bv wv G.kh kv) ∧ OwnG w' base bv wv kv Hb Hw G ∧ (∀ x, blkG bv wv kv Hb Hw x → X x) ∧ Sav X w w'
end Go.Proofs.YtjckpammcgeloaaDoor
namespace Go.Proofs.YtjckpammcgeloaaDoor
open Go.RowKit
theorem chg_gift {W w2 : World} {x base : Nat} {h kh kh' : Int} {b v kv : Value} {L' : List Int} (H : GiftCell W x h b v kh kv) (hc : Chg W w2 x 3 base kv kh' L') : GiftCell w2 x h b v kh' kv := hc.blk _ _ _ H
theorem GiftCell.sav {X : Nat → Prop} {w w' : World} {x : Nat} {h kh : Int} {b v kv : Value} (H : GiftCell w x h b v kh kv) (hs : Sav X w w') (hX : ¬ X x) : GiftCell w' x h b v kh kv := (hs.block x (blk_lt H) hX).trans H
section
variable {W w2 : World} {base g c : Nat} {v wv kv : Value} {Hb Hw : List HV} {gh gkh : Int} {S T : List Shr} {L : List Int} {f : Shr → Shr} {k : Nat}
theorem OwnG.step1 (h : OwnG W base (.slice (some ⟨g, 0, none⟩) Hb.length c) wv kv Hb Hw ⟨gh, mapK f S k, T, gkh, L⟩) (hk : k < S.length) (hc : Chg W w2 g (k * 2) base (hvAt Hb k).2 (f (hS S k, vS S k)).1 (f (hS S k, vS S k)).2) :
    OwnG w2 base (.slice (some ⟨g, 0, none⟩) Hb.length c) wv kv (Hb.set k ((f (hS S k, vS S k)).1, (hvAt Hb k).2)) Hw ⟨gh, mapK f S (k + 1), T, gkh, L⟩ ∧
      (∀ x, blkV (.slice (some ⟨g, 0, none⟩) Hb.length c) (Hb.set k ((f (hS S k, vS S k)).1, (hvAt Hb k).2)) x → blkV (.slice (some ⟨g, 0, none⟩) Hb.length c) Hb x) ∧ Sav (blkV (.slice (some ⟨g, 0, none⟩) Hb.length c) Hb) W w2 := by
  have hl : Hb.length = S.length := by have := h.sb.len; simp only [mapK_len] at this; exact this
  have hkH : k < Hb.length := by omega
  have hs : Sav (blkV (.slice (some ⟨g, 0, none⟩) Hb.length c) Hb) W w2 := hc.sav.mono fun b _ hb => by
    rcases hb with rfl | hb
    · exact .inl rfl
    · exact .inr ⟨k, hkH, hb⟩
  have hi : ∀ x, blkV (.slice (some ⟨g, 0, none⟩) Hb.length c) (Hb.set k ((f (hS S k, vS S k)).1, (hvAt Hb k).2)) x → blkV (.slice (some ⟨g, 0, none⟩) Hb.length c) Hb x := fun x hx => (blkV_set hkH).1 hx
  have h1 := h.sb.chg (k := k) (by rw [mapK_len]; exact hk) hc
  rw [mapK_set hk] at h1
  exact ⟨⟨h1, h.sw.sav hs (fun b hb hx => h.bw b hx hb), own_sav h.sk hs (fun b hb hx => h.bk b hx hb), fun x hx => h.bw x (hi x hx), fun x hx => h.bk x (hi x hx), h.wk⟩, hi, hs⟩
theorem OwnG.step2 (h : OwnG W base v (.slice (some ⟨g, 0, none⟩) Hw.length c) kv Hb Hw ⟨gh, S, mapK f T k, gkh, L⟩) (hk : k < T.length) (hc : Chg W w2 g (k * 2) base (hvAt Hw k).2 (f (hS T k, vS T k)).1 (f (hS T k, vS T k)).2) :
    OwnG w2 base v (.slice (some ⟨g, 0, none⟩) Hw.length c) kv Hb (Hw.set k ((f (hS T k, vS T k)).1, (hvAt Hw k).2)) ⟨gh, S, mapK f T (k + 1), gkh, L⟩ ∧
      (∀ x, blkV (.slice (some ⟨g, 0, none⟩) Hw.length c) (Hw.set k ((f (hS T k, vS T k)).1, (hvAt Hw k).2)) x → blkV (.slice (some ⟨g, 0, none⟩) Hw.length c) Hw x) ∧ Sav (blkV (.slice (some ⟨g, 0, none⟩) Hw.length c) Hw) W w2 := by
  have hl : Hw.length = T.length := by have := h.sw.len; simp only [mapK_len] at this; exact this
  have hkH : k < Hw.length := by omega
  have hs : Sav (blkV (.slice (some ⟨g, 0, none⟩) Hw.length c) Hw) W w2 := hc.sav.mono fun b _ hb => by
    rcases hb with rfl | hb
    · exact .inl rfl
    · exact .inr ⟨k, hkH, hb⟩
  have hi : ∀ x, blkV (.slice (some ⟨g, 0, none⟩) Hw.length c) (Hw.set k ((f (hS T k, vS T k)).1, (hvAt Hw k).2)) x → blkV (.slice (some ⟨g, 0, none⟩) Hw.length c) Hw x := fun x hx => (blkV_set hkH).1 hx
  have h1 := h.sw.chg (k := k) (by rw [mapK_len]; exact hk) hc
  rw [mapK_set hk] at h1
  exact ⟨⟨h.sb.sav hs (fun b hb hx => h.bw b hb hx), h1, own_sav h.sk hs (fun b hb hx => h.wk b hx hb), fun x hx hy => h.bw x hx (hi x hy), h.bk, fun x hx => h.wk x (hi x hx)⟩, hi, hs⟩
theorem OwnG.step3 {x : Nat} {kh' : Int} {L' : List Int} (h : OwnG W base v wv kv Hb Hw ⟨gh, S, T, gkh, L⟩) (hx : x < base ∨ W.heap.size ≤ x ∨ ¬ blkG v wv kv Hb Hw x) (hc : Chg W w2 x 3 base kv kh' L') : OwnG w2 base v wv kv Hb Hw ⟨gh, S, T, kh', L'⟩ := by
  have key : ∀ b, blkG v wv kv Hb Hw b → b ≠ x := fun b hb e => by
    subst e
    have := h.blk hb
    rcases hx with hx | hx | hx
    · omega
    · omega
    · exact hx hb
  exact ⟨h.sb.sav hc.sav (fun b hb hx => hx.elim (fun e => key b (.inl hb) e) (fun e => h.bk b hb e)), h.sw.sav hc.sav (fun b hb hx => hx.elim (fun e => key b (.inr (.inl hb)) e) (fun e => h.wk b hb e)), hc.row, h.bw, h.bk, h.wk⟩
end
theorem sav_fill (w : World) (r : Nat) (h kh : Int) (b v kv : Value) : Sav (fun x => x = r) w (((((w.setCell ⟨r, 0, none⟩ (.int .i64 h)).setCell ⟨r, 1, none⟩ b).setCell ⟨r, 2, none⟩ v).setCell ⟨r, 3, none⟩ (.int .i64 kh)).setCell ⟨r, 4, none⟩ kv) :=
  ((((Sav.set (X := fun x => x = r) _ ⟨r, 0, none⟩ _ rfl).trans (Sav.set (X := fun x => x = r) _ ⟨r, 1, none⟩ _ rfl)).trans (Sav.set (X := fun x => x = r) _ ⟨r, 2, none⟩ _ rfl)).trans (Sav.set (X := fun x => x = r) _ ⟨r, 3, none⟩ _ rfl)).trans (Sav.set (X := fun x => x = r) _ ⟨r, 4, none⟩ _ rfl)
theorem each_post {X : Nat → Prop} {w w3 : World} {base : Nat} {bv wv kv : Value} {Hb Hw : List HV} (G : GiftD) (hN : OwnG w3 base bv wv kv Hb Hw G) (hi : ∀ x, blkG bv wv kv Hb Hw x → X x) (hB : Sav X w w3) (r : Nat) (hr : w.heap.size ≤ r) (hX : ¬ blkG bv wv kv Hb Hw r) :
    EachP X base bv wv kv G w (.returned (giftV G.h bv wv G.kh kv)) (((((w3.setCell ⟨r, 0, none⟩ (.int .i64 G.h)).setCell ⟨r, 1, none⟩ bv).setCell ⟨r, 2, none⟩ wv).setCell ⟨r, 3, none⟩ (.int .i64 G.kh)).setCell ⟨r, 4, none⟩ kv) := by
  have hs := sav_fill w3 r G.h G.kh bv wv kv
  exact ⟨Hb, Hw, rfl, hN.sav hs (fun x hx e => hX (e ▸ hx)), hi, hB.trans2 hs (fun k hk => .inr (by omega))⟩

set_option maxRecDepth 100000 in
set_option maxHeartbeats 8000000 in
theorem each_any (n : Nat) (us : Array Value) (E : Nat → Prop) (base M : Nat) (f : Shr → Shr) (bv wv kv : Value) (Hb Hw : List HV) (G : GiftD) (w : World) (hO : OwnG w base bv wv kv Hb Hw G) (hn : ∀ args w, (callFunc n args).run Tryd.prog w = .ok (.enter n args) w)
    (hT : ShFn n us E w base M f) (hE : ∀ b, E b → b < w.heap.size ∧ ¬ blkG bv wv kv Hb Hw b) (_ : base ≤ w.heap.size) (hM : ∀ k, k < G.bx.length → (vS G.bx k).length ≤ M) (hM2 : ∀ k, k < G.wh.length → (vS G.wh k).length ≤ M) (hM3 : G.kv.length ≤ M) (hl : G.bx.length ≤ 100000) (hl2 : G.wh.length ≤ 100000) :
    Calls Tryd.prog 40 #[giftV G.h bv wv G.kh kv, .func (.func n) #[] us] w (EachP (blkG bv wv kv Hb Hw) base bv wv kv (mapG f G) w) := by
  have HT := Lib.hid hT
  have HO := Lib.hid hO
  have HM := Lib.hid (And.intro hM (And.intro hM2 hM3))
  have HE := Lib.hid hE
  obtain ⟨A, ca, hbv⟩ := row_slice hO.sb
  obtain ⟨B, cb, hwv⟩ := row_slice hO.sw
  have HBL := Lib.hid (fun x (hx : blkG bv wv kv Hb Hw x) => hO.blk hx)
  have HCV := Lib.hid (show kv.oneCell' = true from by obtain ⟨C, cc, e, -⟩ := own_ints hO.sk rfl; rw [e]; rfl)
  obtain ⟨C, cc, hkv, -⟩ := own_ints hO.sk rfl
  clear hO hT hM hM2 hM3 hE
  obtain ⟨gh, S, T, gkh, L⟩ := G
  simp only at *
  subst hbv; subst hwv; subst hkv
  go_enter Tryd.func40, Tryd.ntmps40
  go_wp2_with fail
  refine gen_world fun w1 hw1 => ?_
  have hGC : GiftCell w1 w.heap.size gh (.slice A S.length ca) (.slice B T.length cb) gkh (.slice C L.length cc) := by rw [hw1]; exact (GiftCell.new _ _ _ _ _ rfl).alloc _
  have hRC : GiftCell w1 (w.heap.size + 1) 0 (.slice none 0 0) (.slice none 0 0) 0 (.slice none 0 0) := by rw [hw1]; exact GiftCell.new _ _ _ _ _ (by simp)
  have hb1 : Below w.heap.size w w1 := by rw [hw1]; exact bl_alloc _ (below_alloc _ _)
  clear hw1
  have HGC := Lib.hid hGC
  have HRC := Lib.hid hRC
  have HB1 := Lib.hid hb1
  clear hRC hb1
  have HO1 := Lib.hid (HO.out.below HB1.out)
  have hz1 := HB1.out.size
  have g0 := HGC.out.c1
  clear hGC
  go_wp2_with fail
  go_loopw [10] (fun i wr => ∃ (k : Nat) (H : List HV), k ≤ S.length ∧ i = .int .i64 k ∧ OwnG wr base (.slice A S.length ca) (.slice B T.length cb) (.slice C L.length cc) H Hw ⟨gh, mapK f S k, T, gkh, L⟩ ∧ (∀ x, blkV (.slice A S.length ca) H x → blkV (.slice A S.length ca) Hb x) ∧ Sav (blkV (.slice A S.length ca) Hb) w1 wr) (fun i _ => S.length - (intOf i).toNat)
  case atStart => exact ⟨0, Hb, Nat.zero_le _, rfl, by rw [mapK_zero]; exact HO1.out, fun x h => h, Sav.refl _ _⟩
  case round =>
    obtain ⟨k, H, hk, rfl, hO, hH, hsv⟩ := hrel
    have hgc := HGC.out.sav hsv (fun hx => by have := (HBL.out _ (.inl hx)).2; omega)
    have gr := hgc.c1
    have hEs : Sav (fun b => ¬ E b) w wr := (Sav.of_below HB1.out).trans (hsv.mono fun x _ hx he => (HE.out x he).2 (.inl hx))
    have HES := Lib.hid hEs
    have HO2 := Lib.hid hO
    have HH := Lib.hid hH
    have HSV := Lib.hid hsv
    clear hgc hO hEs hH hsv g0
    by_cases hlt : k < S.length
    · have hHl : H.length = S.length := by have := HO2.out.sb.len; simp only [mapK_len] at this; exact this
      obtain ⟨g, c, e, hg, hbg, hlc, hcm, hcell, hfr⟩ := HO2.out.sb.out.form (by omega)
      injection e with e1 e2 e3
      subst e1; subst e3
      obtain ⟨q0, q1⟩ := hcell k (by omega)
      have hrow := HO2.out.sb.row k (by rw [mapK_len]; exact hlt)
      have hhold := HO2.out.sb.hold k (by rw [mapK_len]; exact hlt)
      rw [(mapK_at hlt).2] at hrow
      rw [(mapK_at hlt).1] at hhold
      rw [hhold] at q0
      have hne : (hvAt H k).2.ownBlock ≠ some g := fun e => HO2.out.sb.no k (by rw [mapK_len]; exact hlt) g e rfl
      have hCall := HT.out wr g (k * 2) (hvAt H k).2 (hS S k) (vS S k) HES.out q0 q1 (hfr _) hrow (HM.out.1 k hlt) hne (fun b hb he => (HE.out b he).2 (.inl (HH.out b (.inr ⟨k, by omega, hb⟩)))) (fun he => (HE.out g he).2 (.inl (HH.out g (.inl rfl))))
      have HC := Lib.hid hCall
      have HST := Lib.hid (fun w2 (hc : Chg wr w2 g (k * 2) base (hvAt H k).2 (f (hS S k, vS S k)).1 (f (hS S k, vS S k)).2) => OwnG.step1 (by rw [hHl]; exact HO2.out) hlt hc)
      rw [hHl] at HST
      have i0 : (0 : Int) ≤ (k : Int) := by omega
      have i1 : (k : Int) < (S.length : Int) := by omega
      clear hCall hrow hhold hne hcell hfr hHl e2
      go_wp2_with fail
      refine HC.out.mono ?_
      rintro e w2 ⟨rfl, hc⟩
      have HN := Lib.hid (HST.out w2 hc)
      clear hc
      go_wp2_with fail
      go_roundw
      case rel => exact ⟨k + 1, _, by omega, by go_num, HN.out.1, fun x hx => HH.out x (HN.out.2.1 x hx), HSV.out.trans (HN.out.2.2.mono fun x _ hx => HH.out x hx)⟩
      case measure => simp [intOf]; omega
    · obtain rfl : k = S.length := by omega
      have HO3 := Lib.hid (show OwnG wr base (.slice A S.length ca) (.slice B T.length cb) (.slice C L.length cc) H Hw ⟨gh, S.map f, T, gkh, L⟩ from by have := HO2.out; rw [mapK_all] at this; exact this)
      have HGC2 := Lib.hid (HGC.out.sav HSV.out (fun hx => by have := (HBL.out _ (.inl hx)).2; omega))
      have HRC2 := Lib.hid (HRC.out.sav HSV.out (fun hx => by have := (HBL.out _ (.inl hx)).2; omega))
      have HBV := Lib.hid HH.out
      obtain ⟨w2, hw2⟩ : ∃ w2 : World, w2 = wr := ⟨_, rfl⟩
      obtain ⟨H2, hH2⟩ : ∃ H2 : List HV, H2 = H := ⟨_, rfl⟩
      subst hw2; subst hH2
      have HES := HES
      have HSV1 := HSV
      have hz2 : w.heap.size + 2 ≤ w2.heap.size := by have := HRC2.out.lt; omega
      have g2 := HGC2.out.c2
      clear HO2 HH HSV gr
      go_wp2_with fail
      go_loopw [23] (fun i wr => ∃ (k : Nat) (H : List HV), k ≤ T.length ∧ i = .int .i64 k ∧ OwnG wr base (.slice A S.length ca) (.slice B T.length cb) (.slice C L.length cc) H2 H ⟨gh, S.map f, mapK f T k, gkh, L⟩ ∧ (∀ x, blkV (.slice B T.length cb) H x → blkV (.slice B T.length cb) Hw x) ∧ Sav (blkV (.slice B T.length cb) Hw) w2 wr) (fun i _ => T.length - (intOf i).toNat)
      case atStart => exact ⟨0, Hw, Nat.zero_le _, rfl, by rw [mapK_zero]; exact HO3.out, fun x h => h, Sav.refl _ _⟩
      case round =>
        obtain ⟨k, H, hk, rfl, hO, hH, hsv⟩ := hrel
        have hgc := HGC2.out.sav hsv (fun hx => by have := (HBL.out _ (.inr (.inl hx))).2; omega)
        have gr := hgc.c2
        have hEs : Sav (fun b => ¬ E b) w wr := HES.out.trans (hsv.mono fun x _ hx he => (HE.out x he).2 (.inr (.inl hx)))
        have HES2 := Lib.hid hEs
        have HO4 := Lib.hid hO
        have HH2 := Lib.hid hH
        have HSV2 := Lib.hid hsv
        clear hgc hO hEs hH hsv g2
        by_cases hlt : k < T.length
        · have hHl : H.length = T.length := by have := HO4.out.sw.len; simp only [mapK_len] at this; exact this
          obtain ⟨g, c, e, hg, hbg, hlc, hcm, hcell, hfr⟩ := HO4.out.sw.out.form (by omega)
          injection e with e1 e2 e3
          subst e1; subst e3
          obtain ⟨q0, q1⟩ := hcell k (by omega)
          have hrow := HO4.out.sw.row k (by rw [mapK_len]; exact hlt)
          have hhold := HO4.out.sw.hold k (by rw [mapK_len]; exact hlt)
          rw [(mapK_at hlt).2] at hrow
          rw [(mapK_at hlt).1] at hhold
          rw [hhold] at q0
          have hne : (hvAt H k).2.ownBlock ≠ some g := fun e => HO4.out.sw.no k (by rw [mapK_len]; exact hlt) g e rfl
          have hCall := HT.out wr g (k * 2) (hvAt H k).2 (hS T k) (vS T k) HES2.out q0 q1 (hfr _) hrow (HM.out.2.1 k hlt) hne (fun b hb he => (HE.out b he).2 (.inr <| .inl (HH2.out b (.inr ⟨k, by omega, hb⟩)))) (fun he => (HE.out g he).2 (.inr <| .inl (HH2.out g (.inl rfl))))
          have HC := Lib.hid hCall
          have HST := Lib.hid (fun w2 (hc : Chg wr w2 g (k * 2) base (hvAt H k).2 (f (hS T k, vS T k)).1 (f (hS T k, vS T k)).2) => OwnG.step2 (by rw [hHl]; exact HO4.out) hlt hc)
          rw [hHl] at HST
          have i0 : (0 : Int) ≤ (k : Int) := by omega
          have i1 : (k : Int) < (T.length : Int) := by omega
          clear hCall hrow hhold hne hcell hfr hHl e2
          go_wp2_with fail
          refine HC.out.mono ?_
          rintro e w2 ⟨rfl, hc⟩
          have HN := Lib.hid (HST.out w2 hc)
          clear hc
          go_wp2_with fail
          go_roundw
          case rel => exact ⟨k + 1, _, by omega, by go_num, HN.out.1, fun x hx => HH2.out x (HN.out.2.1 x hx), HSV2.out.trans (HN.out.2.2.mono fun x _ hx => HH2.out x hx)⟩
          case measure => simp [intOf]; omega
        · obtain rfl : k = T.length := by omega
          have HO5 := Lib.hid (show OwnG wr base (.slice A S.length ca) (.slice B T.length cb) (.slice C L.length cc) H2 H ⟨gh, S.map f, T.map f, gkh, L⟩ from by have := HO4.out; rw [mapK_all] at this; exact this)
          have HGC3 := Lib.hid (HGC2.out.sav HSV2.out (fun hx => by have := (HBL.out _ (.inr (.inl hx))).2; omega))
          have HRC3 := Lib.hid (HRC2.out.sav HSV2.out (fun hx => by have := (HBL.out _ (.inr (.inl hx))).2; omega))
          have c3 := HGC3.out.c3
          have c4 := HGC3.out.c4
          have hCall := HT.out wr w.heap.size 3 (.slice C L.length cc) gkh L HES2.out c3 c4 (HGC3.out.frozen _) HO5.out.sk HM.out.2.2 (fun e => by have := (HBL.out _ (.inr (.inr e))).2; omega) (fun b hb he => (HE.out b he).2 (.inr (.inr hb))) (fun he => by have := (HE.out _ he).1; omega)
          have HC := Lib.hid hCall
          have HST := Lib.hid (fun w3 (hc : Chg wr w3 w.heap.size 3 base (.slice C L.length cc) (f (gkh, L)).1 (f (gkh, L)).2) => OwnG.step3 HO5.out (.inr (.inr (fun hx => by
            rcases hx with hx | hx | hx
            · have := (HBL.out _ (.inl (HBV.out _ hx))).2; omega
            · have := (HBL.out _ (.inr (.inl (HH2.out _ hx)))).2; omega
            · have := (HBL.out _ (.inr (.inr hx))).2; omega))) hc)
          have hzr := HRC3.out.lt
          clear hCall c3 c4 gr
          go_wp2_with fail
          refine HC.out.mono ?_
          rintro e w3 ⟨rfl, hc⟩
          have HN := Lib.hid (HST.out w3 hc)
          have HGC4 := Lib.hid (chg_gift HGC3.out hc)
          have HRC4 := Lib.hid (HRC3.out.sav hc.sav (fun hx => by
            rcases hx with hx | hx
            · omega
            · have := (HBL.out _ (.inr (.inr hx))).2; omega))
          have hB3 : Sav (blkG (.slice A S.length ca) (.slice B T.length cb) (.slice C L.length cc) Hb Hw) w w3 := by
            have b1 : Sav (blkG (.slice A S.length ca) (.slice B T.length cb) (.slice C L.length cc) Hb Hw) w w1 := Sav.of_below HB1.out
            have b2 := b1.trans (HSV1.out.mono fun x _ hx => .inl hx)
            have b3 := b2.trans (HSV2.out.mono fun x _ hx => .inr (.inl hx))
            exact b3.trans2 hc.sav (fun x hx => by
              rcases hx with hx | hx
              · exact .inr (by omega)
              · exact .inl (.inr (.inr hx)))
          have HB3 := Lib.hid hB3
          have HF := Lib.hid (each_post (bv := .slice A S.length ca) (wv := .slice B T.length cb) (kv := .slice C L.length cc) (mapG f ⟨gh, S, T, gkh, L⟩) HN.out (fun x hx => by
            rcases hx with hx | hx | hx
            · exact .inl (HBV.out _ hx)
            · exact .inr (.inl (HH2.out _ hx))
            · exact .inr (.inr hx)) HB3.out (w.heap.size + 1) (by omega) (fun hx => by
            rcases hx with hx | hx | hx
            · have := (HBL.out _ (.inl (HBV.out _ hx))).2; omega
            · have := (HBL.out _ (.inr (.inl (HH2.out _ hx)))).2; omega
            · have := (HBL.out _ (.inr (.inr hx))).2; omega))
          clear hc hB3
          have d0 := HGC4.out.c0
          have d1 := HGC4.out.c1
          have d2 := HGC4.out.c2
          have d3 := HGC4.out.c3
          have d4 := HGC4.out.c4
          have r0 := HRC4.out.c0
          have r1 := HRC4.out.c1
          have r2 := HRC4.out.c2
          have r3 := HRC4.out.c3
          have r4 := HRC4.out.c4
          have f0 := HRC4.out.frozen 0
          have f1 := HRC4.out.frozen 1
          have f2 := HRC4.out.frozen 2
          have f3 := HRC4.out.frozen 3
          have f4 := HRC4.out.frozen 4
          have hlr := HRC4.out.lt
          go_wp2_with fail
          refine bodyPost_ret (results_gift rfl _ _ (w.heap.size + 1) rfl (HRC4.out.fill gh (.slice A S.length ca) (.slice B T.length cb) (f (gkh, L)).1 (.slice C L.length cc))) rfl ?_
          exact HF.out
end Go.Proofs.YtjckpammcgeloaaDoor
namespace Go.Proofs.YtjckpammcgeloaaDoor
open Go.RowKit

theorem zeroCells_int (m : Nat) : Builtin.zeroCells (Value.int .i64 0).cells m = (List.replicate m (Value.int .i64 0)).toArray := by
  rw [show (Value.int .i64 0).cells = #[Value.int .i64 0] from rfl]
  apply Array.ext
  · simp [Builtin.zeroCells]
  · intro i h1 h2
    simp [Builtin.zeroCells]
    have : i % 1 = 0 := Nat.mod_one i
    simp [this]
theorem run_app_zero_room (ty : TypeId) {w : World} {g n cap m : Nat} {cur : Array Value} (hg : w.heap[g]? = some (.cells cur 3 (0, 0))) (hroom : n + m ≤ cap) (hfit : n + m ≤ cur.size) (hm : 0 < m) (hm2 : m ≤ 1099511627776) :
    (Builtin.append_ #[22, 3] ty #[.slice (some ⟨g, 0, none⟩) n cap, .int .i64 (m : Int)]).run Tryd.prog w =
      .ok (.slice (some ⟨g, 0, none⟩) (n + m) cap) (w.setRow g (cur.toList.take n ++ List.replicate m (Value.int .i64 0) ++ cur.toList.drop (n + m)).toArray) := by
  obtain ⟨i, hi, hz, hsz, hby⟩ := info_parts info_int
  have hst := run_storeCells_at Tryd.prog g (n * i.size) 3 (List.replicate m (Value.int .i64 0)) 0 cur w hg (by rw [hsz]; simpa using hfit) (fun u hu => by rw [List.eq_of_mem_replicate hu]; rfl)
  simp only [Nat.add_zero] at hst
  have hw : IntKind.i64.wrap (m : Int) = (m : Int) := IntWalk.i64_in _ (by omega)
  have h1 : ¬ ((m : Int) < 0) := by omega
  have h2 : ¬ (281474976710656 < (m : Int) * i.bytes) := by rw [hby]; omega
  have hn1 : n * i.size = n := by rw [hsz, Nat.mul_one]
  have hr := hst
  rw [hn1] at hr
  simp [Builtin.append_, run_underlying Tryd.underlying22, run_underlying Tryd.underlying3, sizeOf, typeInfo, zeroValue, hi, hz, hroom, hw, h1, h2, Addr.add_lit, zeroCells_int, asInt, asIntOf, hr, hsz, show ¬ m = 0 by omega]
theorem run_app_zero_grow (ty : TypeId) {w : World} {b : Addr} {n cap m : Nat} {olds : List Value} (hlo : olds.length = n) (holds : ∀ j v, olds[j]? = some v → w.cell? (b.add j) = some v) (hgr : cap < n + m) (hm : 0 < m) (hl : n + m ≤ 4294967296) :
    (Builtin.append_ #[22, 3] ty #[.slice (some b) n cap, .int .i64 (m : Int)]).run Tryd.prog w =
      .ok (.slice (some ⟨w.heap.size, 0, none⟩) (n + m) (grownCap w (n + m) cap 3)) (w.drew.alloc (.cells (olds.toArray ++ (List.replicate m (Value.int .i64 0)).toArray ++ Builtin.zeroCells (Value.int .i64 0).cells (grownCap w (n + m) cap 3 - (n + m))) 3)) := by
  obtain ⟨i, hi, hz, hsz, hby⟩ := info_parts info_int
  have hw : IntKind.i64.wrap (m : Int) = (m : Int) := IntWalk.i64_in _ (by omega)
  have h1 : ¬ ((m : Int) < 0) := by omega
  have h2 : ¬ (281474976710656 < (m : Int) * i.bytes) := by rw [hby]; omega
  have hn : ¬ (n + m ≤ cap) := by omega
  have h63' : ¬ (9223372036854775807 < ((n : Int) + (m : Int))) := by omega
  have h48' : ¬ (281474976710656 < Builtin.nextslicecap (n + m) cap * i.bytes) := by
    have := growslice_fits (need := n + m) (old := cap) (bytes := i.bytes) (by omega) (by rw [hby]; omega)
    omega
  have hfo := run_firstCells_some (P := Tryd.prog) w.drew i.size n b n cap olds (by rw [hlo, hsz, Nat.mul_one]) (by simpa using holds)
  rw [hsz] at hfo
  simp [Builtin.append_, run_underlying Tryd.underlying22, run_underlying Tryd.underlying3, sizeOf, typeInfo, zeroValue, hi, hz, hn, hw, h1, h2, h63', h48', Question.forced, asInt, asIntOf, hsz, show ¬ m = 0 by omega, hfo, newRow, grownCap, zeroCells_int]
theorem take_two {α : Type} {X Y Z : List α} {n : Nat} (h : n = X.length + Y.length) : (X ++ Y ++ Z).take n = X ++ Y := by rw [h, ← List.length_append]; exact List.take_left
theorem run_app_zeros (ty : TypeId) {w : World} {base : Nat} {v : Value} {S : List Nat} (m : Nat) (hown : w.ownsRow base 3 1 v S.length (valsN S)) (h0 : 0 < S.length) (hl : S.length + m ≤ 4294967296) (hbase : base ≤ w.heap.size) :
    ∃ v' w', (Builtin.append_ #[22, 3] ty #[v, .int .i64 (m : Int)]).run Tryd.prog w = .ok v' w' ∧ w'.ownsRow base 3 1 v' (S ++ List.replicate m 0).length (valsN (S ++ List.replicate m 0)) ∧ w.grownBy w' v.ownBlock := by
  obtain ⟨i, hi, hz, hsz, hby⟩ := info_parts info_int
  have hxl : (valsN S).length = S.length := by simp [valsN]
  have hval : valsN (S ++ List.replicate m 0) = valsN S ++ List.replicate m (Value.int .i64 0) := by simp [valsN]
  have hlen : (S ++ List.replicate m 0).length = S.length + m := by simp
  rcases Nat.eq_zero_or_pos m with rfl | hm
  · refine ⟨v, w, ?_, by simpa using hown, ⟨rfl, rfl, rfl, Nat.le_refl _, fun _ _ _ => rfl⟩⟩
    rcases hown.2 with ⟨_, h2⟩ | ⟨g, cap, cur, rfl, hbg, hg, hnc, hcm, hcs, htake⟩
    · omega
    · simp [Builtin.append_, run_underlying Tryd.underlying22, run_underlying Tryd.underlying3, sizeOf, typeInfo, zeroValue, hi, hz, hnc, hby, asInt, asIntOf, Addr.add_lit, storeCells, show IntKind.i64.wrap 0 = 0 by decide]
  · rcases hown.2 with ⟨_, h2⟩ | ⟨g, cap, cur, rfl, hbg, hg, hnc, hcm, hcs, htake⟩
    · omega
    · rw [hval, hlen]
      by_cases hroom : S.length + m ≤ cap
      · refine ⟨_, _, run_app_zero_room ty hg hroom (by omega) hm (by omega), ⟨by simp [valsN], .inr ⟨g, cap, _, rfl, hbg, setRow_heap w g cur _ _ _ hg, hroom, hcm, ?_, ?_⟩⟩, ⟨rfl, rfl, rfl, by simp, fun k _ hk => setRow_other w g k _ (fun e => hk (by simp [Value.ownBlock, e]))⟩⟩
        · simp; omega
        · rw [Nat.mul_one] at htake ⊢
          rw [htake]
          exact take_two (by rw [hxl, List.length_replicate])
      · have holds : ∀ j u, (valsN S)[j]? = some u → w.cell? ((⟨g, 0, none⟩ : Addr).add j) = some u := hown.cells (g := g) rfl
        have hge := grownCap_ge w (S.length + m) cap 3
        have hcm2 : grownCap w (S.length + m) cap 3 ≤ maxLen := grownCap_le_maxLen w (S.length + m) cap 3 (by unfold maxLen; omega)
        refine ⟨_, _, run_app_zero_grow ty hxl holds (by omega) hm hl, ⟨by simp [valsN], .inr ⟨w.heap.size, _, _, rfl, hbase, heap_alloc_new w.drew _, hge, hcm2, ?_, ?_⟩⟩, ⟨rfl, rfl, rfl, by simp, fun k hk _ => (by first | exact heap_alloc_old w.drew _ k hk | exact heap_alloc_old w.drew _ hk)⟩⟩
        · simp only [Array.size_append, List.size_toArray, size_zeroCells, hxl, List.length_replicate, show (Value.int .i64 0).cells.size = 1 from rfl]
          omega
        · rw [Nat.mul_one, Array.toList_append, Array.toList_append]
          exact take_two (by rw [List.length_replicate]; show _ = (valsN S).length + m; rw [hxl])
/-- append of m zeros onto a row of the own. -/
theorem app_zeros {ops : Array Oper} {rest : List Oper} {o : Oper} {a : Act} {Q : Exit → Act → World → Prop} (hgd : o.guard = none) (s x : Operand)
    (ho : o.op = .call { callee := .builtin .append, args := #[s, x], argTypes := #[22, 3] })
    {base : Nat} {w : World} {v : Value} {S : List Nat} (m : Nat) (hs : a.eval s = v) (hown : w.ownsRow base 3 1 v S.length (valsN S)) (h0 : 0 < S.length)
    (hx : a.eval x = .int .i64 (m : Int)) (hl : S.length + m ≤ 4294967296) (hbase : base ≤ w.heap.size)
    (h : ∀ v' w', w'.ownsRow base 3 1 v' (S ++ List.replicate m 0).length (valsN (S ++ List.replicate m 0)) → Below base w w' → wpList Tryd.prog ops Q rest (a.put o.dst v') w') :
    wpList Tryd.prog ops Q (o :: rest) a w := by
  refine wpList_plain hgd fun _ hK => ?_
  obtain ⟨v', w', hr, h2, h3⟩ := run_app_zeros o.type m hown h0 hl hbase
  unfold Oper.wp execOp
  simp only [ho, resolve, invoke, builtin, Sem.run_bind, Sem.run_pure, Result.andThen_ok, List.map_toArray, List.map_cons, List.map_nil, hs, hx, hr]
  exact hK _ _ (h v' w' h2 ((Below.refl _ _).grown h3 hbase (fun k hk => (hown.lt k hk).1)))
end Go.Proofs.YtjckpammcgeloaaDoor
namespace Go.Proofs.YtjckpammcgeloaaDoor
open Go.RowKit

theorem emp_ints (w : World) : (w.alloc (.cells #[] 3)).ownsRow w.heap.size 3 1 (.slice (some ⟨w.heap.size, 0, none⟩) 0 0) ([] : List Int).length (valsI []) :=
  ⟨rfl, .inr ⟨w.heap.size, 0, #[], rfl, Nat.le_refl _, heap_alloc_new w _, Nat.le_refl _, Nat.zero_le _, rfl, rfl⟩⟩
theorem app_intsX {ops : Array Oper} {rest : List Oper} {o : Oper} {a : Act} {Q : Exit → Act → World → Prop} (hgd : o.guard = none) (s x : Operand)
    (ho : o.op = .call { callee := .builtin .append, args := #[s, x], argTypes := #[22, 22] })
    {base : Nat} {w : World} {v : Value} {ad : Addr} {c : Nat} (L : List Int) (hs : a.eval s = v) (hown : w.ownsRow base 3 1 v ([] : List Int).length (valsI []))
    (hx : a.eval x = .slice (some ad) L.length c) (hT : ∀ j u, (valsI L)[j]? = some u → w.cell? (ad.add j) = some u) (hl : L.length ≤ 4294967296) (hbase : base ≤ w.heap.size)
    (h : ∀ v' w', w'.ownsRow base 3 1 v' L.length (valsI L) → Below base w w' → wpList Tryd.prog ops Q rest (a.put o.dst v') w') :
    wpList Tryd.prog ops Q (o :: rest) a w := by
  obtain ⟨i0, hi, hz0, hz1, hz2⟩ := info_parts info_int
  refine wpList_append_own w hgd s x 22 ho base 3 i0 _ 1 8 Tryd.underlying22 hi hz0 hz1 hz2 rfl (by omega) v 0 (valsI []) hs hown ad L.length c (valsI L) hx (by simp [valsI]) hT (valsI_one L) (by unfold maxLen; omega) (by omega) hbase ?_
  intro v' w' h2 h3 _
  refine h v' w' ?_ ((Below.refl _ _).grown h3 hbase (fun k hk => (World.ownsRow.lt hown k hk).1))
  simpa [valsI] using h2
theorem alloc_below {w w' : World} {o : Obj} (hb : Below w.heap.size (w.alloc o) w') : Below w.heap.size w w' := (below_alloc w o).trans hb
/-- The call returns a row of the own with the numbers L. -/
def NewRow (L : List Int) (w : World) (e : Ending) (w' : World) : Prop := ∃ A c, e = .returned (.slice A L.length c) ∧ w'.ownsRow w.heap.size 3 1 (.slice A L.length c) L.length (valsI L) ∧ Below w.heap.size w w'
set_option maxRecDepth 100000 in
set_option maxHeartbeats 1000000 in
theorem cloneRow_any (A : Option Addr) (L : List Int) (c : Nat) (w : World) (hI : IntsAt w A L) (hok : IOK A c L.length) (hl : L.length ≤ 1048576) :
    Calls Tryd.prog 63 #[.slice A L.length c] w (NewRow L w) := by
  rcases A with _ | a
  · obtain rfl := hok.nil rfl
    have : L = [] := List.eq_nil_of_length_eq_zero (by have := hok.len; omega)
    subst this
    clear hI hok
    have he : ∀ w : World, (binOp .eql 22 (.slice none 0 0) (.slice none 0 0)).run Tryd.prog w = .ok (.bool true) w := fun _ => rfl
    go_enter Tryd.func63, Tryd.ntmps63
    go_wp2
    go_ret
    exact ⟨none, 0, rfl, World.ownsRow_nil _ _ _ _, Below.refl _ _⟩
  · have HS := Lib.hid (IntsAt.news (hI.keep (P := fun _ => True) (w' := w.alloc (.cells #[] 3)) (fun _ _ _ => .inr trivial) ⟨(below_alloc _ _).size, fun b _ hlt => (below_alloc w _).block b hlt⟩) (hok.spot.elim .inl (fun g => .inr (g a rfl))))
    have he : ∀ w : World, (binOp .eql 22 (.slice (some a) L.length c) (.slice none 0 0)).run Tryd.prog w = .ok (.bool false) w := fun _ => rfl
    clear hI hok
    go_enter Tryd.func63, Tryd.ntmps63
    go_wp2_with (first | (at_builtin; refine app_intsX rfl (.tmp 5) (.tmp 6) rfl (base := w.heap.size) (v := .slice (some ⟨w.heap.size, 0, none⟩) 0 0) L rfl (emp_ints w) rfl HS.out (by omega) (by simp) ?_; intro v w1 hown hb; clear he HS) | fail)
    obtain ⟨B, c', rfl, -⟩ := own_ints hown rfl
    have HX := Lib.hid hown
    clear hown
    go_wp2_with fail
    go_ret
    exact ⟨_, _, rfl, HX.out, alloc_below hb⟩

/-- The call returns a share of the own. -/
def NewShO (x : Int) (L : List Int) (w : World) (e : Ending) (w' : World) : Prop := ∃ A c, e = .returned (shV x (.slice A L.length c)) ∧ w'.ownsRow w.heap.size 3 1 (.slice A L.length c) L.length (valsI L) ∧ Below w.heap.size w w'
set_option maxRecDepth 100000 in
set_option maxHeartbeats 2000000 in
theorem share_any {P : Nat → Prop} (x : Int) (B : Option Addr) (L : List Int) (c : Nat) (w : World) (hI : IntsP P w B c L) (hl : L.length ≤ 1048576) :
    Calls Tryd.prog 54 #[shV x (.slice B L.length c)] w (NewShO x L w) := by
  have HI := Lib.hid hI
  clear hI
  go_enter Tryd.func54, Tryd.ntmps54
  go_wp2_with fail
  refine gen_world fun w1 hw1 => ?_
  have hC : ShCell w1 w.heap.size x (.slice B L.length c) := by rw [hw1]; exact (ShCell.new _ _ rfl).alloc _
  have hR : ShCell w1 (w.heap.size + 1) 0 (.slice none 0 0) := by rw [hw1]; exact ShCell.new _ _ (by simp)
  have hb1 : Below w.heap.size w w1 := by rw [hw1]; exact bl_alloc _ (below_alloc _ _)
  have hz1 : w1.heap.size = w.heap.size + 2 := by rw [hw1]; simp
  clear hw1
  have c0 := hC.c0
  have c1 := hC.c1
  have HR := Lib.hid hR
  have HC := Lib.hid hC
  have hlc := hC.lt
  have HI1 := Lib.hid (HI.out.keep (Kept.below hb1))
  have HB1 := Lib.hid hb1
  clear hC hR hb1 HI
  go_region_held3 (fun w' => w'.cell? ⟨w.heap.size, 0, none⟩ = some (.int .i64 x) ∧ w'.cell? ⟨w.heap.size, 1, none⟩ = some (.slice B L.length c)) (first | go_keep | exact ⟨n60, n61⟩)
    ((go_at_call 63; refine (cloneRow_any B L c _ (by exact HI1.out.ints) HI1.out.ok hl).mono ?_; rintro e w5 ⟨UA, uc, rfl, hown, hb5⟩; have hb5' : Below w1.heap.size w1 w5 := (by first | exact below_undrew1 hb5 | exact hb5); have n60 := (hb5'.cell (p := ⟨w.heap.size, 0, none⟩) hlc).trans c0; have n61 := (hb5'.cell (p := ⟨w.heap.size, 1, none⟩) hlc).trans c1; have r0 := (HR.out.below hb5').c0; have r1 := (HR.out.below hb5').c1; have f0 := (HR.out.below hb5').frozen 0; have f1 := (HR.out.below hb5').frozen 1))
  have HX := Lib.hid (show NewShO x L w (.returned (shV x (.slice UA L.length uc))) ((w5.setCell ⟨w.heap.size + 1, 0, none⟩ (.int .i64 x)).setCell ⟨w.heap.size + 1, 1, none⟩ (.slice UA L.length uc)) from by
    have hs : Sav (fun b => b = w.heap.size + 1) w5 ((w5.setCell ⟨w.heap.size + 1, 0, none⟩ (.int .i64 x)).setCell ⟨w.heap.size + 1, 1, none⟩ (.slice UA L.length uc)) := (Sav.set (X := fun b => b = w.heap.size + 1) _ ⟨w.heap.size + 1, 0, none⟩ _ rfl).trans (Sav.set (X := fun b => b = w.heap.size + 1) _ ⟨w.heap.size + 1, 1, none⟩ _ rfl)
    have hown' : w5.ownsRow w1.heap.size 3 1 (.slice UA L.length uc) L.length (valsI L) := hown
    refine ⟨UA, uc, rfl, ownsRow_mono (own_sav hown' hs (fun b e e2 => ?_)) (by omega), (below_trans HB1.out hb5').trans (hs.below w.heap.size ?_ (fun k _ e => by omega))⟩
    · have := (World.ownsRow.lt hown' b e).1; omega
    · have := (below_trans HB1.out hb5').size; omega)
  have HF := Lib.hid (shcell_fill (HR.out.below hb5') x (.slice UA L.length uc))
  clear hown hb5 hb5' n60 n61 r0 r1 f0 f1 c0 c1
  go_wp2_with fail
  refine bodyPost_ret (results_shr rfl _ _ (w.heap.size + 1) rfl HF.out) rfl HX.out
theorem enter_share (args : Array Value) (w : World) : (callFunc 54 args).run Tryd.prog w = .ok (.enter 54 args) w :=
  Go.MuLone.run_callFunc_enter Tryd.func54 (by kernel_rfl) rfl args w

theorem list_more {w wr w1 w2 w3 : World} {v v3 u : Value} {H : List HV} {S : List Shr} {x : Int} {L : List Int} {C : Array Value} (hR : RowsI wr w.heap.size v H S) (hb1 : Below wr.heap.size wr w1) (hb12 : Below wr.heap.size wr w2) (hsz : w.heap.size ≤ wr.heap.size)
    (hown : w2.ownsRow w1.heap.size 3 1 u L.length (valsI L)) (hbr : Below w.heap.size w wr) (hown3 : HvOwn w3 w.heap.size v3 (H ++ [(x, u)])) (hg3 : (w2.alloc (.cells C 35)).grownBy w3 v.ownBlock) (hbb : Below w.heap.size (w2.alloc (.cells C 35)) w3) (hor : v3.ownBlock = v.ownBlock ∨ v3.ownBlock = some (w2.alloc (.cells C 35)).heap.size) :
    RowsI w3 w.heap.size v3 (H ++ [(x, u)]) (S ++ [(x, L)]) ∧ Below w.heap.size w w3 := by
  have hbA : Below wr.heap.size wr (w2.alloc (.cells C 35)) := below_trans hb12 (below_alloc _ _)
  refine ⟨hR.more hbA x L (ownsRow_mono (own_below hown (below_alloc _ _)) hb1.size) hsz hown3 hg3 (hor.elim .inl (fun e => .inr (fun b hb => by rw [e] at hb; injection hb with hb; omega))), ?_⟩
  exact (below_trans hbr hbA).trans hbb

set_option maxRecDepth 100000 in
set_option maxHeartbeats 4000000 in
theorem listShares_any {P : Nat → Prop} (A : Option Addr) (c : Nat) (S : List Shr) (w : World) (hS : ShP P w A c S) (hsh : Short S) (hl : S.length ≤ 1000000) :
    Calls Tryd.prog 62 #[.slice A S.length c, .func (.func 54) #[] #[]] w (CopyP S w) := by
  have HS := Lib.hid hS
  have HSH := Lib.hid hsh
  clear hS hsh
  go_enter Tryd.func62, Tryd.ntmps62
  go_wp2_with fail
  go_loopw [5, 10] (fun o i wr => ∃ (k : Nat) (H : List HV), k ≤ S.length ∧ i = .int .i64 k ∧ RowsI wr w.heap.size o H (S.take k) ∧ Below w.heap.size w wr) (fun _ i _ => S.length - (intOf i).toNat)
  case atStart => exact ⟨0, [], Nat.zero_le _, rfl, ⟨HvOwn.nil _ _, rfl, fun k hk => absurd hk (by simp), fun k hk => absurd hk (by simp), fun i j hi => absurd hi (by simp), fun i hi => absurd hi (by simp)⟩, Below.refl _ _⟩
  case round =>
    obtain ⟨k, H, hk, rfl, hR, hbr⟩ := hrel
    have hlk : (S.take k).length = k := by rw [List.length_take]; omega
    obtain ⟨OA, oc, hv, -⟩ := hR.read
    rw [hlk] at hv
    subst hv
    have HLK := Lib.hid hlk
    clear hlk
    have hsz := hbr.size
    have hHl : H.length ≤ 1000000 := by rw [hR.len, List.length_take]; omega
    have HR := Lib.hid hR
    by_cases hlt : k < S.length
    · obtain ⟨b, off, B, c1, rfl, hb, -, h1, h2, h3⟩ := (HS.out.below hbr).at_ k hlt
      have HI := Lib.hid h3
      have hvl := HSH.out k hlt
      have HTK := Lib.hid (hSv_take hlt)
      generalize hS S k = x at *
      generalize vS S k = L at *
      clear h3 hR
      go_wp2_with fail
      refine gen_calls fun w1 hw1 => ?_
      have hb1 : Below wr.heap.size wr w1 := by rw [hw1]; exact below_alloc _ _
      clear hw1 h1 h2
      refine (share_any x B L c1 w1 (HI.out.keep (Kept.below hb1)) hvl).mono ?_
      rintro e w2 ⟨UA, uc, rfl, hown, hb2⟩
      have hb12 := below_trans hb1 hb2
      have HOW := Lib.hid hown
      have HR2 := Lib.hid (HR.out.below hb12)
      have HB12 := Lib.hid hb12
      have HB1 := Lib.hid hb1
      clear hown hb1 hb2 hb12
      go_wp2_with (first | (at_builtin; refine app_hv rfl (.tmp 14) (.tmp 18) rfl (base := w.heap.size) (w := w2.alloc _) (v := .slice OA k oc) (H := H) (x, .slice UA L.length uc) rfl (HR2.out.out.below (below_alloc _ _)) rfl (heap_alloc_new _ _) rfl (by omega) (by have := HB12.out.size; simp; omega) ?_; intro v3 w3 hown3 hg3 hbb hor; have HN := Lib.hid (list_more HR.out HB1.out HB12.out hsz HOW.out hbr hown3 hg3 hbb hor); clear hown3 hg3 hbb hor) | fail)
      go_roundw
      case rel => exact ⟨k + 1, _, by omega, by go_num, by rw [HTK.out]; exact HN.out.1, HN.out.2⟩
      case measure => simp [intOf]; omega
    · obtain rfl : k = S.length := by omega
      have HX := Lib.hid (show RowsI wr w.heap.size (.slice OA S.length oc) H S from by have := HR.out; rwa [List.take_length] at this)
      go_wp2_with fail
      go_ret
      exact ⟨_, H, rfl, HX.out, hbr⟩
set_option maxRecDepth 100000 in
set_option maxHeartbeats 1000000 in
theorem shares_any {P : Nat → Prop} (A : Option Addr) (c : Nat) (S : List Shr) (w : World) (hS : ShP P w A c S) (hsh : Short S) (hl : S.length ≤ 1000000) :
    Calls Tryd.prog 53 #[.slice A S.length c] w (CopyP S w) := by
  have HC := Lib.hid (listShares_any A c S w hS hsh hl)
  clear hS hsh
  go_enter Tryd.func53, Tryd.ntmps53
  go_wp2_with fail
  refine HC.out.mono ?_
  rintro e w1 ⟨v, H, rfl, hR, hb⟩
  have HX := Lib.hid (And.intro hR hb)
  obtain ⟨A', c', rfl⟩ := row_slice hR
  clear hR hb
  go_wp2_with fail
  go_ret
  exact ⟨_, H, rfl, HX.out.1, HX.out.2⟩
theorem enter_shares (args : Array Value) (w : World) : (callFunc 53 args).run Tryd.prog w = .ok (.enter 53 args) w :=
  Go.MuLone.run_callFunc_enter Tryd.func53 (by kernel_rfl) rfl args w
end Go.Proofs.YtjckpammcgeloaaDoor
namespace Go.Proofs.YtjckpammcgeloaaDoor
open Go.RowKit

def upd (L : Nat → Bool) (i : Nat) : Nat → Bool := fun k => cond (Nat.beq k i) true (L k)
def updV (V : Nat → Value) (i : Nat) (v : Value) : Nat → Value := fun k => cond (Nat.beq k i) v (V k)
theorem upd_same (L : Nat → Bool) (i : Nat) : upd L i i = true := by simp [upd]
theorem upd_other (L : Nat → Bool) {i k : Nat} (h : k ≠ i) : upd L i k = L k := by
  unfold upd
  have : Nat.beq k i = false := by
    cases hb : Nat.beq k i
    · rfl
    · exact absurd (Nat.eq_of_beq_eq_true hb) h
  rw [this]; rfl
theorem updV_same (V : Nat → Value) (i : Nat) (v : Value) : updV V i v i = v := by simp [updV]
theorem updV_other (V : Nat → Value) {i k : Nat} (v : Value) (h : k ≠ i) : updV V i v k = V k := by
  unfold updV
  have : Nat.beq k i = false := by
    cases hb : Nat.beq k i
    · rfl
    · exact absurd (Nat.eq_of_beq_eq_true hb) h
  rw [this]; rfl

/-- Where each operation's value lies, and that nothing else has turned. -/
structure RJ (ops : Array Oper) (a0 : Act) (V : Nat → Value) (L : Nat → Bool) (a : Act) : Prop where
  defers : a.defers = a0.defers
  size : a.tmps.size = a0.tmps.size
  val : ∀ (j : Nat) (o : Oper), ops[j]? = some o → ∀ d, o.dst = some d → L j = true → a.tmps[d]?.getD undef = V j
  same : ∀ k, (ops.all fun o => o.dst != some k) = true → a.tmps[k]? = a0.tmps[k]?
/-- Each operation's slot is its own, and lies in the frame. -/
def dstsB (ops : Array Oper) (n : Nat) : Bool :=
  (List.range ops.size).all fun i => match ops[i]? with
    | none => true
    | some o => match o.dst with
      | none => true
      | some d => decide (d < n) && (List.range ops.size).all fun j => j == i || match ops[j]? with
        | none => true
        | some p => p.dst != some d
theorem dstsB_spec {ops : Array Oper} {n : Nat} (h : dstsB ops n = true) {i : Nat} {o : Oper} (hi : ops[i]? = some o) {d : Nat} (hd : o.dst = some d) : d < n ∧ ∀ j p, j ≠ i → ops[j]? = some p → p.dst ≠ some d := by
  unfold dstsB at h
  rw [List.all_eq_true] at h
  have hil : i < ops.size := (Array.getElem?_eq_some_iff.1 hi).1
  have h1 := h i (List.mem_range.2 hil)
  rw [hi] at h1
  simp only [hd, Bool.and_eq_true, decide_eq_true_eq, List.all_eq_true, List.mem_range, Bool.or_eq_true, beq_iff_eq] at h1
  refine ⟨h1.1, fun j p hj hp => ?_⟩
  have hjl : j < ops.size := (Array.getElem?_eq_some_iff.1 hp).1
  have h2 := h1.2 j hjl
  rw [hp] at h2
  rcases h2 with h2 | h2
  · exact absurd h2 hj
  · simpa using h2
theorem RJ.step {ops : Array Oper} {a0 : Act} {V : Nat → Value} {L : Nat → Bool} {a : Act} (h : RJ ops a0 V L a) (hB : dstsB ops a0.tmps.size = true) {i : Nat} {o : Oper} (hi : ops[i]? = some o) (v : Value) : RJ ops a0 (updV V i v) (upd L i) (a.put o.dst v) := by
  cases hd : o.dst with
  | none =>
    refine ⟨h.defers, h.size, fun j p hj d hpd hL => ?_, h.same⟩
    by_cases e : j = i
    · subst e
      rw [hi] at hj; injection hj with hj; subst hj
      rw [hd] at hpd; cases hpd
    · rw [updV_other _ _ e]; rw [upd_other _ e] at hL; exact h.val j p hj d hpd hL
  | some d0 =>
    obtain ⟨hlt, hne⟩ := dstsB_spec hB hi hd
    refine ⟨h.defers, by simpa [Act.put] using h.size, fun j p hj d hpd hL => ?_, fun k hk => ?_⟩
    · by_cases e : j = i
      · subst e
        rw [hi] at hj; injection hj with hj; subst hj
        rw [hd] at hpd; injection hpd with hpd; subst hpd
        rw [updV_same]
        have : d0 < a.tmps.size := by rw [h.size]; exact hlt
        simp [Act.put, this]
      · have hdd : d0 ≠ d := fun e2 => hne j p e hj (by rw [e2]; exact hpd)
        rw [updV_other _ _ e]; rw [upd_other _ e] at hL
        have := h.val j p hj d hpd hL
        simp only [Act.put, Array.getElem?_setIfInBounds_ne hdd]; exact this
    · have hdk : d0 ≠ k := fun e => by
        rw [Array.all_eq_true_iff_forall_mem] at hk
        have := hk o (Array.mem_of_getElem? hi)
        simp [hd, e] at this
      simp only [Act.put, Array.getElem?_setIfInBounds_ne hdk]; exact h.same k hk

/-- The operations that must come before one. -/
def preL (o : Oper) : List Nat := (o.after.toList.filter fun e => Region.binds .any e).map (·.on)
def lowB (ops : Array Oper) : Bool := (List.range ops.size).all fun i => match ops[i]? with
  | none => true
  | some o => (preL o).all fun j => decide (j < i)
def JSteps (P : Program) (ops : Array Oper) (Q : Exit → Act → World → Prop) (a0 : Act) (I : (Nat → Value) → (Nat → Bool) → World → Prop) : Nat → List Oper → Prop
  | _, [] => True
  | i, o :: l => (∀ V L a w, L i = false → (∀ j ∈ preL o, L j = true) → RJ ops a0 V L a → I V L w → ∀ K : Act → World → Prop, (∀ v w', I (updV V i v) (upd L i) w' → K (a.put o.dst v) w') →
      if Region.wanted o (yielded ops a.tmps) = true then Oper.wp P o a w K Q else K (a.put o.dst undef) w) ∧ JSteps P ops Q a0 I (i + 1) l
theorem JSteps.at_ {P : Program} {ops : Array Oper} {Q : Exit → Act → World → Prop} {a0 : Act} {I : (Nat → Value) → (Nat → Bool) → World → Prop} : ∀ (l : List Oper) (i : Nat), JSteps P ops Q a0 I i l → ∀ (j : Nat) (o : Oper), l[j]? = some o → ∀ V L a w, L (i + j) = false → (∀ k ∈ preL o, L k = true) → RJ ops a0 V L a → I V L w → ∀ K : Act → World → Prop, (∀ v w', I (updV V (i + j) v) (upd L (i + j)) w' → K (a.put o.dst v) w') →
      if Region.wanted o (yielded ops a.tmps) = true then Oper.wp P o a w K Q else K (a.put o.dst undef) w
  | [], i, _, j, o, h => by simp at h
  | p :: l, i, hs, 0, o, h => by
    simp only [List.getElem?_cons_zero, Option.some.injEq] at h
    subst h; exact hs.1
  | p :: l, i, hs, j + 1, o, h => by
    rw [List.getElem?_cons_succ] at h
    have := JSteps.at_ l (i + 1) hs.2 j o h
    rw [show i + 1 + j = i + (j + 1) by omega] at this; exact this
theorem count_set_lt {l : List Bool} {i : Nat} (h : i < l.length) (hf : l[i] = false) : (l.set i true).count false + 1 = l.count false := by
  induction l generalizing i with
  | nil => simp at h
  | cons b l ih =>
    cases i with
    | zero =>
      simp only [List.getElem_cons_zero] at hf
      subst hf
      simp
    | succ i =>
      simp only [List.getElem_cons_succ] at hf
      have := ih (by simpa using h) hf
      simp only [List.set_cons_succ, List.count_cons]
      omega
theorem wp_region_J {P : Program} {ops : Array Oper} {Q : Exit → Act → World → Prop} {id : Nat} {a0 : Act} {w0 : World} (I : (Nat → Value) → (Nat → Bool) → World → Prop)
    (hm : P.follows .mixedOrders = true) (hlow : lowB ops = true) (hB : dstsB ops a0.tmps.size = true)
    (h0 : ∀ V, I V (fun _ => false) w0.drew) (hs : JSteps P ops Q a0 I 0 ops.toList)
    (h1 : ∀ V L a w, (∀ i, i < ops.size → L i = true) → RJ ops a0 V L a → I V L w → Q .normal a w) : (Code.region id ops true).wp P Q a0 w0 := by
  refine wp_region_any hm ?_
  have key : ∀ (fuel : Nat) (listed : Array Bool) (V : Nat → Value) (L : Nat → Bool) (a : Act) (w : World), listed.size = ops.size → listed.toList.count false ≤ fuel → (∀ i, i < ops.size → L i = listed.getD i false) → RJ ops a0 V L a → I V L w → wpAny P .any ops Q fuel listed a w := by
    intro fuel
    induction fuel with
    | zero =>
      intro listed V L a w hsz hc hL hR hI
      have hall : ∀ i, i < ops.size → L i = true := fun i hi => by
        rw [hL i hi]
        have hil : i < listed.size := by omega
        have : listed[i] ≠ false := fun e => by
          have hm : false ∈ listed.toList := by rw [← e]; exact Array.mem_toList_iff.2 (Array.getElem_mem hil)
          have := List.count_pos_iff.2 hm
          omega
        simp [hil]; simpa using this
      refine ⟨?_, h1 V L a w hall hR hI⟩
      rw [List.eq_nil_iff_forall_not_mem]
      intro i hi
      obtain ⟨hf, o, ho, -⟩ := mem_ready.1 hi
      have hil := (Array.getElem?_eq_some_iff.1 ho).1
      have := hall i hil
      rw [hL i hil] at this
      have hil2 : i < listed.size := by omega
      simp [hil2] at hf this
      rw [hf] at this; cases this
    | succ fuel ih =>
      intro listed V L a w hsz hc hL hR hI
      refine ⟨fun hnil => ?_, fun i hi => ?_⟩
      · have hall : ∀ i, i < ops.size → L i = true := by
          intro i
          induction i using Nat.strongRecOn with
          | _ i IH =>
            intro hi
            cases hLi : L i with
            | true => rfl
            | false =>
              exfalso
              have hil : i < listed.size := by omega
              have hlf : listed[i] = false := by
                have := hL i hi
                rw [hLi] at this; simp [hil] at this; exact this
              have : i ∈ Region.ready .any ops listed := by
                refine mem_ready.2 ⟨by simp [hil, hlf], ops[i], Array.getElem?_eq_getElem hi, fun e he hb => ?_⟩
                have hlt : e.on < i := by
                  unfold lowB at hlow
                  rw [List.all_eq_true] at hlow
                  have h2 := hlow i (List.mem_range.2 hi)
                  rw [Array.getElem?_eq_getElem hi] at h2
                  simp only [List.all_eq_true] at h2
                  have := h2 e.on (List.mem_map.2 ⟨e, List.mem_filter.2 ⟨Array.mem_toList_iff.2 he, hb⟩, rfl⟩)
                  simpa using this
                have := IH e.on hlt (by omega)
                rw [hL e.on (by omega)] at this; exact this
              rw [hnil] at this; cases this
        exact h1 V L a w hall hR hI
      · obtain ⟨hf, o, ho, hpre⟩ := mem_ready.1 hi
        have hil := (Array.getElem?_eq_some_iff.1 ho).1
        have hil2 : i < listed.size := by omega
        have hlf : listed[i] = false := by simpa [hil2] using hf
        refine wpOp_step ho fun K hK => ?_
        have hst := JSteps.at_ ops.toList 0 hs i o (by rw [Array.getElem?_toList]; exact ho) V L a w (by rw [Nat.zero_add, hL i hil, Array.getD_eq_getD_getElem?, Array.getElem?_eq_getElem hil2, hlf]; rfl) (fun j hj => ?_) hR hI K (fun v w' hI' => ?_)
        · exact hst
        · obtain ⟨e, he, rfl⟩ := List.mem_map.1 hj
          obtain ⟨he1, he2⟩ := List.mem_filter.1 he
          have := hpre e (Array.mem_toList_iff.1 he1) he2
          have hjl : e.on < listed.size := by
            rcases Nat.lt_or_ge e.on listed.size with h' | h'
            · exact h'
            · simp [Array.getElem?_eq_none h'] at this
          rw [hL e.on (by omega)]; exact this
        · rw [Nat.zero_add] at hI'
          refine hK _ _ (ih (listed.setIfInBounds i true) (updV V i v) (upd L i) _ w' (by simpa using hsz) ?_ (fun k hk => ?_) (hR.step hB ho v) hI')
          · rw [Array.toList_setIfInBounds]
            have := count_set_lt (l := listed.toList) (i := i) (by simpa using hil2) (by simpa using hlf)
            omega
          · by_cases e : k = i
            · subst e; rw [upd_same]; simp [hil2]
            · rw [upd_other _ e, hL k hk]
              simp [Array.getElem?_setIfInBounds_ne (Ne.symm e)]
  refine key ops.size (Array.replicate ops.size false) (fun _ => undef) (fun _ => false) a0 w0.drew (by simp) (by simp) (fun i hi => by simp [hi]) ⟨rfl, rfl, fun j o hj d hd hL => (by cases hL), fun k _ => rfl⟩ (h0 _)

/-! ### The frame behind the region -/
def putL (a : Act) : List (Nat × Value) → Act
  | [] => a
  | e :: l => putL (a.put (some e.1) e.2) l
def finL (V : Nat → Value) : Nat → List Oper → List (Nat × Value)
  | _, [] => []
  | i, o :: l => match o.dst with
    | none => finL V (i + 1) l
    | some d => (d, V i) :: finL V (i + 1) l
theorem putL_defers : ∀ (l : List (Nat × Value)) (a : Act), (putL a l).defers = a.defers
  | [], _ => rfl
  | e :: l, a => by rw [putL, putL_defers l]; rfl
theorem putL_size : ∀ (l : List (Nat × Value)) (a : Act), (putL a l).tmps.size = a.tmps.size
  | [], _ => rfl
  | e :: l, a => by rw [putL, putL_size l]; simp [Act.put]
theorem putL_none (V : Nat → Value) (k : Nat) : ∀ (l : List Oper) (i : Nat) (a : Act), (∀ o ∈ l, o.dst ≠ some k) → (putL a (finL V i l)).tmps[k]? = a.tmps[k]?
  | [], _, _, _ => rfl
  | o :: l, i, a, h => by
    have h1 := h o (by simp)
    have h2 : ∀ p ∈ l, p.dst ≠ some k := fun p hp => h p (by simp [hp])
    cases hd : o.dst with
    | none => simp only [finL, hd]; exact putL_none V k l (i + 1) a h2
    | some d =>
      have hdk : d ≠ k := fun e => h1 (by rw [hd, e])
      simp only [finL, hd, putL]
      rw [putL_none V k l (i + 1) _ h2]
      simp only [Act.put, Array.getElem?_setIfInBounds_ne hdk]
theorem putL_some (V : Nat → Value) (k : Nat) : ∀ (l : List Oper) (i : Nat) (a : Act) (j : Nat) (o : Oper), l[j]? = some o → o.dst = some k → k < a.tmps.size → (∀ j' p, j' ≠ j → l[j']? = some p → p.dst ≠ some k) → (putL a (finL V i l)).tmps[k]? = some (V (i + j))
  | [], _, _, j, o, h, _, _, _ => by simp at h
  | p :: l, i, a, 0, o, h, hd, hk, hne => by
    simp only [List.getElem?_cons_zero, Option.some.injEq] at h
    subst h
    simp only [finL, hd, putL]
    rw [putL_none V k l (i + 1) _ (fun q hq => by
      obtain ⟨j', hj', hq'⟩ := List.getElem_of_mem hq
      exact hne (j' + 1) q (by omega) (by rw [List.getElem?_cons_succ, ← hq']; exact List.getElem?_eq_getElem hj'))]
    simp [Act.put, hk]
  | p :: l, i, a, j + 1, o, h, hd, hk, hne => by
    rw [List.getElem?_cons_succ] at h
    have hne' : ∀ j' q, j' ≠ j → l[j']? = some q → q.dst ≠ some k := fun j' q hj hq => hne (j' + 1) q (by omega) (by rw [List.getElem?_cons_succ]; exact hq)
    rw [show i + (j + 1) = (i + 1) + j by omega]
    cases hp : p.dst with
    | none => simp only [finL, hp]; exact putL_some V k l (i + 1) a j o h hd hk hne'
    | some d => simp only [finL, hp, putL]; exact putL_some V k l (i + 1) _ j o h hd (by simpa [Act.put] using hk) hne'
theorem RJ.fin {ops : Array Oper} {a0 : Act} {V : Nat → Value} {L : Nat → Bool} {a : Act} (h : RJ ops a0 V L a) (hB : dstsB ops a0.tmps.size = true) (hL : ∀ i, i < ops.size → L i = true) : a = putL a0 (finL V 0 ops.toList) := by
  have e1 : a.defers = (putL a0 (finL V 0 ops.toList)).defers := by rw [putL_defers]; exact h.defers
  have e2 : a.tmps = (putL a0 (finL V 0 ops.toList)).tmps := by
    refine Array.ext_getElem? fun k => ?_
    by_cases hk : (ops.all fun o => o.dst != some k) = true
    · rw [h.same k hk, putL_none]
      intro o ho
      rw [Array.all_eq_true_iff_forall_mem] at hk
      have := hk o (Array.mem_toList_iff.1 ho)
      simpa using this
    · have hex : ∃ (i : Nat) (o : Oper), ops[i]? = some o ∧ o.dst = some k := by
        refine Classical.byContradiction fun hn => hk ?_
        rw [Array.all_eq_true_iff_forall_mem]
        intro o ho
        obtain ⟨i, hi, he⟩ := Array.getElem_of_mem ho
        have : ¬ o.dst = some k := fun e => hn ⟨i, o, by rw [← he]; exact Array.getElem?_eq_getElem hi, e⟩
        simpa using this
      obtain ⟨i, o, hi, hd⟩ := hex
      obtain ⟨hlt, hne⟩ := dstsB_spec hB hi hd
      have hil := (Array.getElem?_eq_some_iff.1 hi).1
      rw [putL_some V k ops.toList 0 a0 i o (by rw [Array.getElem?_toList]; exact hi) hd hlt (fun j' p hj hp => hne j' p hj (by rw [Array.getElem?_toList] at hp; exact hp)), Nat.zero_add]
      have hv := h.val i o hi k hd (hL i hil)
      have hka : k < a.tmps.size := by rw [h.size]; exact hlt
      rw [Array.getElem?_eq_getElem hka] at hv ⊢
      simpa using hv
  cases a
  simp only at e1 e2
  subst e1; subst e2
  rfl
/-- The region, told by its steps; behind it the frame is written out. -/
theorem wp_region_J2 {P : Program} {l : List Oper} {Q : Exit → Act → World → Prop} {id : Nat} {a0 : Act} {w0 : World} (I : (Nat → Value) → (Nat → Bool) → World → Prop)
    (hm : P.follows .mixedOrders = true) (hlow : lowB l.toArray = true) (hB : dstsB l.toArray a0.tmps.size = true)
    (h0 : ∀ V, I V (fun _ => false) w0.drew) (hs : JSteps P l.toArray Q a0 I 0 l)
    (h1 : ∀ V L w, (∀ i, i < l.length → L i = true) → I V L w → Q .normal (putL a0 (finL V 0 l)) w) : (Code.region id l.toArray true).wp P Q a0 w0 := by
  refine wp_region_J I hm hlow hB h0 hs fun V L a w hL hR hI => ?_
  rw [hR.fin hB hL]
  exact h1 V L w (fun i hi => hL i (by simpa using hi)) hI
end Go.Proofs.YtjckpammcgeloaaDoor
namespace Go.Proofs.YtjckpammcgeloaaDoor
open Go.RowKit

section
variable {P : Program} {ops : Array Oper} {o : Oper} {a : Act} {K : Act → World → Prop} {Q : Exit → Act → World → Prop} {E : Prop} {w : World}
theorem J_val (hgd : o.guard = none) {v : Value} {w' : World} (he : (execOp a.eval o).run P w = .ok (.value v) w') (hK : K (a.put o.dst v) w') :
    if Region.wanted o (yielded ops a.tmps) = true then Oper.wp P o a w K Q else E := by
  rw [if_pos (by simp [Region.wanted, hgd])]
  unfold Oper.wp
  rw [he]; exact hK
theorem J_skip (hgd : o.guard = none) {w' : World} (he : (execOp a.eval o).run P w = .ok .skip w') (hK : K (a.put o.dst undef) w') :
    if Region.wanted o (yielded ops a.tmps) = true then Oper.wp P o a w K Q else E := by
  rw [if_pos (by simp [Region.wanted, hgd])]
  unfold Oper.wp
  rw [he]; exact hK
theorem J_move (hgd : o.guard = none) (x : Operand) (ho : o.op = .move x) (hK : K (a.put o.dst (a.eval x)) w) :
    if Region.wanted o (yielded ops a.tmps) = true then Oper.wp P o a w K Q else E :=
  J_val hgd (w' := w) (v := a.eval x) (by unfold execOp; rw [ho]; rfl) hK
theorem J_assign (hgd : o.guard = none) (x : Operand) (ho : o.op = .assign x) (hK : K (a.put o.dst (a.eval x)) w) :
    if Region.wanted o (yielded ops a.tmps) = true then Oper.wp P o a w K Q else E :=
  J_val hgd (w' := w) (v := a.eval x) (by unfold execOp; rw [ho]; rfl) hK
theorem run_val {s : Sem Value} {v : Value} {w' : World} (h : s.run P w = .ok v w') : (do pure (Next.value (← s)) : Sem Next).run P w = .ok (.value v) w' := by
  simp [h]
theorem run_skip {s : Sem Unit} {w' : World} (h : s.run P w = .ok () w') : (do s; pure Next.skip : Sem Next).run P w = .ok .skip w' := by
  simp [h]
theorem J_load (hgd : o.guard = none) (t : TypeId) (x : Operand) (ho : o.op = .load t x) {v : Value} (h : (Instr.loadAt t (a.eval x)).run P w = .ok v w) (hK : K (a.put o.dst v) w) :
    if Region.wanted o (yielded ops a.tmps) = true then Oper.wp P o a w K Q else E :=
  J_val hgd (by unfold execOp; rw [ho]; exact run_val h) hK
theorem J_alloc (hgd : o.guard = none) (t : TypeId) (ho : o.op = .alloc t) {v : Value} {w' : World} (h : (Instr.alloc t true (.tuple #[])).run P w = .ok v w') (hK : K (a.put o.dst v) w') :
    if Region.wanted o (yielded ops a.tmps) = true then Oper.wp P o a w K Q else E :=
  J_val hgd (by unfold execOp; rw [ho]; exact run_val h) hK
theorem J_extract (hgd : o.guard = none) (x : Operand) (i : Nat) (ho : o.op = .extract x i) {vs : Array Value} {v : Value} (hx : a.eval x = .tuple vs) (hv : vs[i]? = some v) (hK : K (a.put o.dst v) w) :
    if Region.wanted o (yielded ops a.tmps) = true then Oper.wp P o a w K Q else E :=
  J_val hgd (by unfold execOp; rw [ho]; exact run_val (by rw [hx]; simp [Instr.extract, hv])) hK
theorem J_store (hgd : o.guard = none) (t : TypeId) (x y : Operand) (ho : o.op = .store t x y) {w' : World} (h : (Instr.storeAt t (a.eval x) (a.eval y)).run P w = .ok () w') (hK : K (a.put o.dst undef) w') :
    if Region.wanted o (yielded ops a.tmps) = true then Oper.wp P o a w K Q else E :=
  J_skip hgd (by unfold execOp; rw [ho]; exact run_skip h) hK
theorem J_call (hgd : o.guard = none) (f : FuncId) (aa : Array Operand) (ts : Array TypeId)
    (ho : o.op = .call { callee := .value (.func f), args := aa, argTypes := ts }) (hen : ∀ args w, (callFunc f args).run P w = .ok (.enter f args) w) {vs : Array Value} (hv : aa.map a.eval = vs)
    {R : Ending → World → Prop} (hc : Calls P f vs w R) (hK : ∀ e w', R e w' → ∃ v, e = .returned v ∧ K (a.put o.dst v) w') :
    if Region.wanted o (yielded ops a.tmps) = true then Oper.wp P o a w K Q else E := by
  rw [if_pos (by simp [Region.wanted, hgd])]
  have hcc : (execOp a.eval o).run P w = .ok (.enter f vs) w := by
    rw [Go.Conc.execOp_call_func ho, hen, hv]
  unfold Oper.wp
  rw [hcc]
  refine Calls.mono hc ?_
  intro e w' hr
  obtain ⟨v, rfl, hk⟩ := hK e w' hr
  exact hk
end
theorem JSteps.cons {P : Program} {ops : Array Oper} {Q : Exit → Act → World → Prop} {a0 : Act} {I : (Nat → Value) → (Nat → Bool) → World → Prop} {i : Nat} {o : Oper} {l : List Oper}
    (h : ∀ V L a w, L i = false → (∀ j ∈ preL o, L j = true) → RJ ops a0 V L a → I V L w → ∀ K : Act → World → Prop, (∀ v w', I (updV V i v) (upd L i) w' → K (a.put o.dst v) w') →
      if Region.wanted o (yielded ops a.tmps) = true then Oper.wp P o a w K Q else K (a.put o.dst undef) w) (hs : JSteps P ops Q a0 I (i + 1) l) : JSteps P ops Q a0 I i (o :: l) := ⟨h, hs⟩
/-- What a slot holds: what the operation that writes it gave. -/
theorem RJ.ev {ops : Array Oper} {a0 : Act} {V : Nat → Value} {L : Nat → Bool} {a : Act} (h : RJ ops a0 V L a) (j : Nat) {o : Oper} (hj : ops[j]? = some o) {d : Nat} (hd : o.dst = some d) (hL : L j = true) : a.eval (.tmp d) = V j := by
  show a.tmps.getD d undef = V j
  rw [Array.getD_eq_getD_getElem?]; exact h.val j o hj d hd hL
theorem RJ.old {ops : Array Oper} {a0 : Act} {V : Nat → Value} {L : Nat → Bool} {a : Act} (h : RJ ops a0 V L a) (k : Nat) (hk : (ops.all fun o => o.dst != some k) = true) : a.eval (.tmp k) = a0.eval (.tmp k) := by
  show a.tmps.getD k undef = a0.tmps.getD k undef
  rw [Array.getD_eq_getD_getElem?, Array.getD_eq_getD_getElem?, h.same k hk]
/-- A literal of numbers. -/
theorem J_lit2 {ops : Array Oper} {o : Oper} {a : Act} {K : Act → World → Prop} {Q : Exit → Act → World → Prop} {E : Prop} {w : World} (hgd : o.guard = none) (x y : Operand) (ho : o.op = .buildSlice 22 2 #[(0, x), (1, y)]) {m n : Int} (hx : a.eval x = .int .i64 m) (hy : a.eval y = .int .i64 n)
    (hK : K (a.put o.dst (.slice (some ⟨w.heap.size, 0, none⟩) 2 2)) (w.alloc (.cells #[.int .i64 m, .int .i64 n] 3))) :
    if Region.wanted o (yielded ops a.tmps) = true then Oper.wp Tryd.prog o a w K Q else E :=
  J_val hgd (by
    unfold execOp; rw [ho]
    refine run_val ?_
    simp only [List.map_toArray, List.map_cons, List.map_nil, hx, hy]
    go_simp) hK
end Go.Proofs.YtjckpammcgeloaaDoor
namespace Go.Proofs.YtjckpammcgeloaaDoor
open Go.RowKit

/-- What the elements of one type are in memory: so many cells each. -/
structure El (α : Type) where
  n : Nat
  f : α → List Value
  len : ∀ x, (f x).length = n
  one : ∀ x, ∀ u ∈ f x, u.oneCell' = true
  pos : 0 < n
def El.flat {α : Type} (E : El α) : List α → List Value
  | [] => []
  | x :: L => E.f x ++ El.flat E L
theorem El.flat_len {α : Type} (E : El α) : ∀ L : List α, (E.flat L).length = L.length * E.n
  | [] => by simp [El.flat]
  | x :: L => by simp only [El.flat, List.length_append, E.len, El.flat_len E L, List.length_cons, Nat.succ_mul]; omega
theorem El.flat_append {α : Type} (E : El α) : ∀ L M : List α, E.flat (L ++ M) = E.flat L ++ E.flat M
  | [], M => rfl
  | x :: L, M => by simp only [List.cons_append, El.flat, El.flat_append E L M, List.append_assoc]
theorem El.flat_one {α : Type} (E : El α) : ∀ L : List α, ∀ u ∈ E.flat L, u.oneCell' = true
  | [], u, h => by cases h
  | x :: L, u, h => by
    simp only [El.flat, List.mem_append] at h
    rcases h with h | h
    · exact E.one x u h
    · exact El.flat_one E L u h
theorem El.flat_at {α : Type} (E : El α) : ∀ (L : List α) (k : Nat) (x : α), L[k]? = some x → ∀ j, j < E.n → (E.flat L)[k * E.n + j]? = (E.f x)[j]?
  | [], k, x, h, j, _ => by simp at h
  | y :: L, 0, x, h, j, hj => by
    simp only [List.getElem?_cons_zero, Option.some.injEq] at h
    subst h
    rw [Nat.zero_mul, Nat.zero_add, El.flat, List.getElem?_append_left (by rw [E.len]; exact hj)]
  | y :: L, k + 1, x, h, j, hj => by
    rw [List.getElem?_cons_succ] at h
    rw [El.flat, List.getElem?_append_right (by rw [E.len, Nat.succ_mul]; omega), E.len, Nat.succ_mul]
    rw [show k * E.n + E.n + j - E.n = k * E.n + j by omega]
    exact El.flat_at E L k x h j hj
/-- The address A leads to the elements L. -/
def ElAt {α : Type} (E : El α) (w : World) (A : Option Addr) (L : List α) : Prop :=
  ∀ k x, L[k]? = some x → ∃ b off, A = some ⟨b, off, none⟩ ∧ b < w.heap.size ∧ ∀ j, j < E.n → w.cell? ⟨b, off + k * E.n + j, none⟩ = (E.f x)[j]?
theorem ElAt.nil {α : Type} (E : El α) (w : World) (A : Option Addr) : ElAt E w A [] := fun k x h => by simp at h
theorem ElAt.below {α : Type} {E : El α} {w w' : World} {A : Option Addr} {L : List α} (h : ElAt E w A L) (hb : Below w.heap.size w w') : ElAt E w' A L := fun k x hk => by
  obtain ⟨b, off, hA, hlt, hc⟩ := h k x hk
  exact ⟨b, off, hA, Nat.lt_of_lt_of_le hlt hb.size, fun j hj => (hb.cell hlt).trans (hc j hj)⟩
theorem ElAt.alloc {α : Type} {E : El α} {w : World} {A : Option Addr} {L : List α} (h : ElAt E w A L) (o : Obj) : ElAt E (w.alloc o) A L := h.below (below_alloc w o)
theorem ElAt.drewN {α : Type} {E : El α} {w : World} {A : Option Addr} {L : List α} (h : ElAt E w A L) (n : Nat) : ElAt E (w.drewN n) A L := h
theorem ElAt.grown {α : Type} {E : El α} {w w' : World} {A : Option Addr} {L : List α} {D : Nat} (h : ElAt E w A L) (hg : w.grownBy w' (some D)) (hD : ∀ b off, A = some ⟨b, off, none⟩ → b ≠ D) : ElAt E w' A L := fun k x hk => by
  obtain ⟨b, off, hA, hlt, hc⟩ := h k x hk
  exact ⟨b, off, hA, Nat.lt_of_lt_of_le hlt hg.size, fun j hj => (grown_cell hg b _ hlt (hD b off hA)).trans (hc j hj)⟩
/-- The call's own slice of elements. -/
def ElOwn {α : Type} (E : El α) (ty : TypeId) (w : World) (base : Nat) (v : Value) (L : List α) : Prop := w.ownsRow base ty E.n v L.length (E.flat L)
theorem blk_ltE {w : World} {x : Nat} {o : Obj} (h : w.heap[x]? = some o) : x < w.heap.size := by
  rcases Nat.lt_or_ge x w.heap.size with hlt | hge
  · exact hlt
  · rw [Array.getElem?_eq_none hge] at h; cases h
theorem ElOwn.at_ {α : Type} {E : El α} {ty : TypeId} {w : World} {base : Nat} {v : Value} {L : List α} (h : ElOwn E ty w base v L) :
    ∃ A c, v = .slice A L.length c ∧ ElAt E w A L ∧ (A = none → L.length = 0 ∧ c = 0) ∧ (∀ a, A = some a → a.off = 0 ∧ a.spot = none ∧ base ≤ a.block ∧ a.block < w.heap.size) ∧ L.length ≤ c ∧ c ≤ maxLen := by
  rcases h.2 with ⟨rfl, h0⟩ | ⟨g, cap, cur, rfl, hg, hh, hnc, hcm, hcs, htk⟩
  · have : L = [] := List.eq_nil_of_length_eq_zero h0
    subst this
    exact ⟨none, 0, rfl, ElAt.nil _ _ _, fun _ => ⟨rfl, rfl⟩, fun a e => (by cases e), Nat.le_refl _, Nat.zero_le _⟩
  · have hlt : g < w.heap.size := blk_ltE hh
    refine ⟨some ⟨g, 0, none⟩, cap, rfl, fun k x hk => ?_, fun e => (by cases e), fun a e => (by injection e with e; subst e; exact ⟨rfl, rfl, hg, hlt⟩), hnc, hcm⟩
    have hkl : k < L.length := by
      rcases Nat.lt_or_ge k L.length with h1 | h1
      · exact h1
      · rw [List.getElem?_eq_none h1] at hk; cases hk
    refine ⟨g, 0, rfl, hlt, fun j hj => ?_⟩
    have hm : (k + 1) * E.n ≤ L.length * E.n := Nat.mul_le_mul_right _ hkl
    rw [Nat.succ_mul] at hm
    rw [Nat.zero_add, h.cellAt (j := k * E.n + j) (by omega)]
    exact E.flat_at L k x hk j hj
theorem ElOwn.below {α : Type} {E : El α} {ty : TypeId} {w w' : World} {base : Nat} {v : Value} {L : List α} (h : ElOwn E ty w base v L) (hb : Below w.heap.size w w') : ElOwn E ty w' base v L := own_below h hb
theorem ElOwn.alloc {α : Type} {E : El α} {ty : TypeId} {w : World} {base : Nat} {v : Value} {L : List α} (h : ElOwn E ty w base v L) (o : Obj) : ElOwn E ty (w.alloc o) base v L := own_below h (below_alloc w o)
theorem ElOwn.mono {α : Type} {E : El α} {ty : TypeId} {w : World} {base base' : Nat} {v : Value} {L : List α} (h : ElOwn E ty w base v L) (hb : base' ≤ base) : ElOwn E ty w base' v L := ownsRow_mono h hb
theorem ElOwn.nil {α : Type} (E : El α) (ty : TypeId) (w : World) (base : Nat) : ElOwn E ty w base (.slice none 0 0) [] := ⟨by simp [El.flat], .inl ⟨rfl, rfl⟩⟩
theorem ElOwn.grown {α : Type} {E : El α} {ty : TypeId} {w w' : World} {base D : Nat} {v : Value} {L : List α} (h : ElOwn E ty w base v L) (hg : w.grownBy w' (some D)) (hD : D < base) : ElOwn E ty w' base v L := by
  obtain ⟨h1, h2⟩ := h
  refine ⟨h1, ?_⟩
  rcases h2 with h2 | ⟨g, cap, cur, hv, hgb, hh, r⟩
  · exact .inl h2
  · exact .inr ⟨g, cap, cur, hv, hgb, (hg.block g (blk_ltE hh) (fun e => by injection e with e; omega)).trans hh, r⟩
theorem ElOwn.kept {α : Type} {E : El α} {ty : TypeId} {w w' : World} {base : Nat} {v : Value} {L : List α} (h : ElOwn E ty w base v L) (hk : ∀ k, v.ownBlock = some k → w'.heap[k]? = w.heap[k]?) : ElOwn E ty w' base v L := by
  obtain ⟨h1, h2⟩ := h
  refine ⟨h1, ?_⟩
  rcases h2 with h2 | ⟨g, cap, cur, hv, hgb, hh, r⟩
  · exact .inl h2
  · exact .inr ⟨g, cap, cur, hv, hgb, (hk g (by rw [hv]; rfl)).trans hh, r⟩
theorem ElOwn.set_ {α : Type} {E : El α} {ty : TypeId} {w : World} {base : Nat} {v : Value} {L : List α} (h : ElOwn E ty w base v L) (p : Addr) (u : Value) (hp : p.block < base) : ElOwn E ty (w.setCell p u) base v L :=
  h.kept fun k hk => Below.heap_setCell w p u k (by have := (World.ownsRow.lt h k hk).1; omega)
theorem ElAt.lit {α : Type} (E : El α) (w : World) (x : α) (ty : TypeId) : ElAt E (w.alloc (.cells (E.f x).toArray ty)) (some ⟨w.heap.size, 0, none⟩) [x] := fun k y hk => by
  rcases k with _ | k
  · simp only [List.getElem?_cons_zero, Option.some.injEq] at hk
    subst hk
    refine ⟨_, _, rfl, by simp, fun j hj => ?_⟩
    have h := heap_alloc_new w (.cells (E.f x).toArray ty)
    rw [Nat.zero_add, Nat.zero_mul, Nat.zero_add, cell_of_row _ _ j _ _ (0, 0) h]
    simp
  · simp at hk
theorem ElAt.news {α : Type} {E : El α} {w : World} {b off : Nat} {L : List α} (h : ElAt E w (some ⟨b, off, none⟩) L) : ∀ j u, (E.flat L)[j]? = some u → w.cell? ((⟨b, off, none⟩ : Addr).add j) = some u := fun j u hu => by
  have hj : j < L.length * E.n := by
    rcases Nat.lt_or_ge j (E.flat L).length with h1 | h1
    · rw [E.flat_len] at h1; exact h1
    · rw [List.getElem?_eq_none h1] at hu; cases hu
  have hk : j / E.n < L.length := (Nat.div_lt_iff_lt_mul E.pos).2 hj
  have hr : j % E.n < E.n := Nat.mod_lt _ E.pos
  have hjj : j / E.n * E.n + j % E.n = j := by rw [Nat.mul_comm]; exact Nat.div_add_mod j E.n
  obtain ⟨b', off', e, _, hc⟩ := h (j / E.n) L[j / E.n] (List.getElem?_eq_getElem hk)
  injection e with e
  injection e with e1 e2
  subst e1; subst e2
  have e : (⟨b, off, none⟩ : Addr).add j = ⟨b, off + j, none⟩ := by
    unfold Addr.add; split
    · rename_i h; subst h; rfl
    · rfl
  have h2 := E.flat_at L (j / E.n) L[j / E.n] (List.getElem?_eq_getElem hk) (j % E.n) hr
  rw [hjj] at h2
  have h3 := hc (j % E.n) hr
  rw [show off + j / E.n * E.n + j % E.n = off + j by omega] at h3
  rw [e, h3, ← h2, hu]
theorem ElAt.newsA {α : Type} {E : El α} {w : World} {a : Addr} {L : List α} (h : ElAt E w (some a) L) (hA : a.spot = none ∨ L.length = 0) : ∀ j u, (E.flat L)[j]? = some u → w.cell? (a.add j) = some u := fun j u hu => by
  rcases hA with hA | hA
  · obtain ⟨b, off, spot⟩ := a
    have hA : spot = none := hA
    subst hA
    exact h.news j u hu
  · have : L = [] := List.eq_nil_of_length_eq_zero hA
    subst this
    simp [El.flat] at hu
/-- append of a slice of elements onto one of the call's own. -/
theorem app_els {α : Type} (E : El α) {t ty : TypeId} {z : Value} {bytes : Nat} (ht : Tryd.prog.underlying t = some (.slice ty)) (hinfo : (Tryd.prog.info? ty).map (fun i => (i.zero, i.size, i.bytes)) = some (some z, E.n, bytes)) (hzs : z.cells.size = E.n)
    {ops : Array Oper} {rest : List Oper} {o : Oper} {a : Act} {Q : Exit → Act → World → Prop} (hgd : o.guard = none) (s x : Operand)
    (ho : o.op = .call { callee := .builtin .append, args := #[s, x], argTypes := #[t, t] })
    {base : Nat} {w : World} {v : Value} {S T : List α} {ad : Addr} {c : Nat} (hs : a.eval s = v) (hown : ElOwn E ty w base v S)
    (hx : a.eval x = .slice (some ad) T.length c) (hT : ∀ j u, (E.flat T)[j]? = some u → w.cell? (ad.add j) = some u) (hl : S.length + T.length ≤ 1000000) (hb : bytes ≤ 1000) (hbase : base ≤ w.heap.size)
    (h : ∀ v' w', ElOwn E ty w' base v' (S ++ T) → w.grownBy w' v.ownBlock → Below base w w' → wpList Tryd.prog ops Q rest (a.put o.dst v') w') :
    wpList Tryd.prog ops Q (o :: rest) a w := by
  obtain ⟨i0, hi, hz0, hz1, hz2⟩ := info_parts hinfo
  have hbb : (S.length + T.length) * bytes ≤ 1000000 * 1000 := Nat.mul_le_mul hl hb
  refine wpList_append_own w hgd s x t ho base ty i0 z E.n bytes ht hi hz0 hz1 hz2 hzs E.pos v S.length (E.flat S) hs hown _ T.length c (E.flat T) hx (E.flat_len T) hT (E.flat_one T) (by unfold maxLen; omega) (by omega) hbase ?_
  intro v' w' h2 h3 _
  refine h v' w' ?_ h3 ((Below.refl _ _).grown h3 hbase (fun k hk => (World.ownsRow.lt hown k hk).1))
  unfold ElOwn; rw [List.length_append, E.flat_append]; exact h2
/-- append of one element onto a slice of the call's own. -/
theorem app_el {α : Type} (E : El α) {t ty : TypeId} {z : Value} {bytes : Nat} (ht : Tryd.prog.underlying t = some (.slice ty)) (hinfo : (Tryd.prog.info? ty).map (fun i => (i.zero, i.size, i.bytes)) = some (some z, E.n, bytes)) (hzs : z.cells.size = E.n)
    {ops : Array Oper} {rest : List Oper} {o : Oper} {a : Act} {Q : Exit → Act → World → Prop} (hgd : o.guard = none) (s x : Operand)
    (ho : o.op = .call { callee := .builtin .append, args := #[s, x], argTypes := #[t, t] })
    {base : Nat} {w : World} {v : Value} {S : List α} (y : α) {C : Array Value} (hC : C = (E.f y).toArray) (hs : a.eval s = v) (hown : ElOwn E ty w base v S)
    (hx : a.eval x = .slice (some ⟨w.heap.size, 0, none⟩) 1 1) (hl : S.length + 1 ≤ 1000000) (hb : bytes ≤ 1000) (hbase : base ≤ w.heap.size)
    (h : ∀ v' w', ElOwn E ty w' base v' (S ++ [y]) → w.grownBy w' v.ownBlock → Below base w w' → wpList Tryd.prog ops Q rest (a.put o.dst v') w') :
    wpList Tryd.prog ops Q (o :: rest) a (w.alloc (.cells C ty)) := by
  subst hC
  refine app_els E ht hinfo hzs hgd s x ho (S := S) (T := [y]) (base := base) hs (hown.alloc _) hx (ElAt.lit E w y ty).news hl hb (by simp; omega) ?_
  intro v' w' h2 h3 hb2
  have hg : w.grownBy w' v.ownBlock := ⟨h3.os, h3.tape, h3.output, Nat.le_trans (by simp) h3.size, fun k hk hne => (h3.block k (by simp; omega) hne).trans (Below.heap_alloc w _ k hk)⟩
  exact h v' w' h2 hg (((Below.refl _ _).alloc hbase _).trans hb2)
end Go.Proofs.YtjckpammcgeloaaDoor
namespace Go.Proofs.YtjckpammcgeloaaDoor
open Go.RowKit

section
variable {P : Program} {ops : Array Oper} {o : Oper} {a : Act} {K : Act → World → Prop} {Q : Exit → Act → World → Prop} {E : Prop} {w : World}
theorem J_fieldAddr (hgd : o.guard = none) (s : TypeId) (x : Operand) (f : Nat) (ho : o.op = .fieldAddr s x f) {v : Value} (h : (Instr.fieldAt s (a.eval x) f).run P w = .ok v w) (hK : K (a.put o.dst v) w) :
    if Region.wanted o (yielded ops a.tmps) = true then Oper.wp P o a w K Q else E :=
  J_val hgd (by unfold execOp; rw [ho]; exact run_val h) hK
theorem J_indexAddr (hgd : o.guard = none) (t : TypeId) (x ix : Operand) (ho : o.op = .indexAddr t x ix) {v : Value} (h : (Instr.indexAt t (a.eval x) (a.eval ix)).run P w = .ok v w) (hK : K (a.put o.dst v) w) :
    if Region.wanted o (yielded ops a.tmps) = true then Oper.wp P o a w K Q else E :=
  J_val hgd (by unfold execOp; rw [ho]; exact run_val h) hK
theorem J_binOp (hgd : o.guard = none) (b : BinOp) (t : TypeId) (x y : Operand) (u : TypeId) (ho : o.op = .binOp b t x y u) {v : Value} (h : (do Go.eqGuard b t x y (a.eval x) (a.eval y); Go.binOp b t (a.eval x) (a.eval y) : Sem Value).run P w = .ok v w) (hK : K (a.put o.dst v) w) :
    if Region.wanted o (yielded ops a.tmps) = true then Oper.wp P o a w K Q else E :=
  J_val hgd (by unfold execOp; rw [ho]; exact run_val h) hK
theorem J_build (hgd : o.guard = none) (t : TypeId) (parts : Array (Nat × Operand)) (ho : o.op = .build t parts) {v : Value} (h : (Instr.build t (parts.map fun (i, x) => (i, a.eval x))).run P w = .ok v w) (hK : K (a.put o.dst v) w) :
    if Region.wanted o (yielded ops a.tmps) = true then Oper.wp P o a w K Q else E :=
  J_val hgd (by unfold execOp; rw [ho]; exact run_val h) hK
theorem J_buildSlice (hgd : o.guard = none) (t : TypeId) (n : Nat) (parts : Array (Nat × Operand)) (ho : o.op = .buildSlice t n parts) {v : Value} {w' : World} (h : (Instr.buildSlice t n (parts.map fun (i, x) => (i, a.eval x))).run P w = .ok v w') (hK : K (a.put o.dst v) w') :
    if Region.wanted o (yielded ops a.tmps) = true then Oper.wp P o a w K Q else E :=
  J_val hgd (by unfold execOp; rw [ho]; exact run_val h) hK
end
/-- append of one element, from a literal that lies anywhere. -/
theorem J_app {α : Type} (E : El α) {t ty : TypeId} {z : Value} {bytes : Nat} (ht : Tryd.prog.underlying t = some (.slice ty)) (hinfo : (Tryd.prog.info? ty).map (fun i => (i.zero, i.size, i.bytes)) = some (some z, E.n, bytes)) (hzs : z.cells.size = E.n)
    {ops : Array Oper} {o : Oper} {a : Act} {K : Act → World → Prop} {Q : Exit → Act → World → Prop} {X : Prop} (W : World) (hgd : o.guard = none) (s x : Operand)
    (ho : o.op = .call { callee := .builtin .append, args := #[s, x], argTypes := #[t, t] })
    (base : Nat) (v : Value) (D : List α) (y : α) (g0 : Nat) (hs : a.eval s = v) (hx : a.eval x = .slice (some ⟨g0, 0, none⟩) 1 1)
    (hlit : ElAt E W (some ⟨g0, 0, none⟩) [y]) (hl : D.length ≤ 100000) (hb : bytes ≤ 1000) (hown : ElOwn E ty W base v D) (hbase : base ≤ W.heap.size)
    (h : ∀ g cap w', ElOwn E ty w' base (.slice (some ⟨g, 0, none⟩) (D.length + 1) cap) (D ++ [y]) → W.grownBy w' v.ownBlock → (v.ownBlock = some g ∨ g = W.heap.size) → K (a.put o.dst (.slice (some ⟨g, 0, none⟩) (D.length + 1) cap)) w') :
    if Region.wanted o (yielded ops a.tmps) = true then Oper.wp Tryd.prog o a W K Q else X := by
  obtain ⟨i0, hi, hz0, hz1, hz2⟩ := info_parts hinfo
  have hE1 : E.flat [y] = E.f y := by simp [El.flat]
  have hn := hlit.news
  rw [hE1] at hn
  have hbb : (D.length + 1) * bytes ≤ 100001 * 1000 := Nat.mul_le_mul (by omega) hb
  refine step_append_lies _ hgd s x t ho base ty i0 z E.n bytes ht hi hz0 hz1 hz2 hzs E.pos v D.length (E.flat D) hs hown ⟨g0, 0, none⟩ 1 1 (E.f y) hx (by rw [E.len]; simp) hn (fun u hu => E.one y u hu) (by omega) (by unfold maxLen; omega) (by omega) hbase _ rfl ?_
  intro g cap w' ho' hg hor _
  refine h g cap w' ?_ hg hor
  unfold ElOwn; rw [List.length_append, E.flat_append, hE1, List.length_singleton]; exact ho'
end Go.Proofs.YtjckpammcgeloaaDoor
