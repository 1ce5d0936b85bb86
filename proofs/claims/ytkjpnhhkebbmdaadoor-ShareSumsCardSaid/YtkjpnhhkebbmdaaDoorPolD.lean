/-
  Polynomials: copies; polynomials without the zeros at their end, by the program and by the document; the document's values and degrees.
-/
import Derived.Test.YtkjpnhhkebbmdaaDoorPolC
namespace Go.Proofs.YtkjpnhhkebbmdaaDoor
open Go.RowKit

/-- What a slice of numbers that a call made looks like. -/
structure SlOK (A : Option Addr) (c : Nat) (L : List Nat) : Prop where
  len : L.length ≤ c
  cap : c ≤ maxLen
  nil : A = none → c = 0
  spot : ∀ a, A = some a → a.spot = none
theorem own_sl {w : World} {base : Nat} {v : Value} {L : List Nat} {n : Nat} (h : w.ownsRow base 3 1 v n (valsN L)) (hn : n = L.length) :
    ∃ A c, v = .slice A L.length c ∧ NatsAt w A L ∧ SlOK A c L ∧ ∀ b off, A = some ⟨b, off, none⟩ → base ≤ b ∧ b < w.heap.size := by
  obtain ⟨A, c, hv, hN, -⟩ := NatsAt.of_own h hn
  subst hn
  have hlt := h.lt
  refine ⟨A, c, hv, hN, ?_, ?_⟩
  · rcases h.2 with ⟨h1, h0⟩ | ⟨g, cap, cur, h1, hg, hh, hnc, hcm, hcs, htk⟩
    · rw [hv] at h1; injection h1 with h2 h3 h4; subst h2; subst h4
      exact ⟨by omega, Nat.zero_le _, fun _ => rfl, fun a e => by cases e⟩
    · rw [hv] at h1; injection h1 with h2 h3 h4; subst h2; subst h4
      exact ⟨hnc, hcm, (fun e => by cases e), fun a e => by injection e with e; subst e; rfl⟩
  · intro b off e
    rcases h.2 with ⟨h1, h0⟩ | ⟨g, cap, cur, h1, hg, hh, hnc, hcm, hcs, htk⟩
    · rw [hv] at h1; injection h1 with h2; subst h2; cases e
    · rw [hv] at h1; injection h1 with h2; subst h2; injection e with e; injection e with e1; subst e1
      exact hlt g (by rw [hv]; rfl)
theorem SlOK.own {w : World} {g : Nat} {L : List Nat} (_ : NatBlk w g L) (hl : L.length ≤ maxLen) : SlOK (some ⟨g, 0, none⟩) L.length L :=
  ⟨Nat.le_refl _, hl, (fun e => by cases e), fun a e => by injection e with e; subst e; rfl⟩
theorem SlOK.none0 : SlOK none 0 [] := ⟨Nat.le_refl _, Nat.zero_le _, fun _ => rfl, fun a e => by cases e⟩
theorem SlOK.empty {A : Option Addr} {c : Nat} {L : List Nat} (h : SlOK A c L) (hA : A = none) : L = [] ∧ c = 0 := by
  have h1 := h.nil hA
  have h2 := h.len
  exact ⟨List.eq_nil_of_length_eq_zero (by omega), h1⟩
theorem NatsAt.news {w : World} {a : Addr} {L : List Nat} (h : NatsAt w (some a) L) (hs : a.spot = none) : ∀ j u, (valsN L)[j]? = some u → w.cell? (a.add j) = some u := fun j u hu => by
  obtain ⟨b, off, spot⟩ := a
  have hs : spot = none := hs
  subst hs
  have hj : j < L.length := by
    rcases Nat.lt_or_ge j (valsN L).length with h1 | h1
    · simpa [valsN] using h1
    · rw [List.getElem?_eq_none h1] at hu; cases hu
  obtain ⟨b', off', e, _, c1⟩ := h j hj
  injection e with e
  injection e with e1 e2
  subst e1; subst e2
  have e : (⟨b, off, none⟩ : Addr).add j = ⟨b, off + j, none⟩ := by
    unfold Addr.add; split
    · rename_i h; subst h; rfl
    · rfl
  rw [e, c1, ← hu, List.getElem?_map, nthN_eq hj, List.getElem?_eq_getElem hj]; rfl
theorem valsN_one (L : List Nat) : ∀ u ∈ valsN L, u.oneCell' = true := by
  intro u hu
  obtain ⟨n, _, rfl⟩ := List.mem_map.1 hu
  rfl
/-- append of a slice of numbers onto one of the call's own. -/
theorem app_nats {ops : Array Oper} {rest : List Oper} {o : Oper} {a : Act} {Q : Exit → Act → World → Prop} (hgd : o.guard = none) (s x : Operand)
    (ho : o.op = .call { callee := .builtin .append, args := #[s, x], argTypes := #[22, 22] })
    {base : Nat} {w : World} {v : Value} {S T : List Nat} {ad : Addr} {c : Nat} (hs : a.eval s = v) (hown : w.ownsRow base 3 1 v S.length (valsN S))
    (hx : a.eval x = .slice (some ad) T.length c) (hT : ∀ j u, (valsN T)[j]? = some u → w.cell? (ad.add j) = some u) (hl : S.length + T.length ≤ 4294967296) (hbase : base ≤ w.heap.size)
    (h : ∀ v' w', w'.ownsRow base 3 1 v' (S ++ T).length (valsN (S ++ T)) → w.grownBy w' v.ownBlock → Below base w w' → wpList Tryd.prog ops Q rest (a.put o.dst v') w') :
    wpList Tryd.prog ops Q (o :: rest) a w := by
  obtain ⟨i0, hi, hz0, hz1, hz2⟩ := info_parts info_int
  refine wpList_append_own w hgd s x 22 ho base 3 i0 _ 1 8 Tryd.underlying22 hi hz0 hz1 hz2 rfl (by omega) v S.length (valsN S) hs hown _ T.length c (valsN T) hx (by simp [valsN]) hT (valsN_one T) (by unfold maxLen; omega) (by omega) hbase ?_
  intro v' w' h2 h3 _
  refine h v' w' ?_ h3 ((Below.refl _ _).grown h3 hbase (fun k hk => (hown.lt k hk).1))
  rw [List.length_append]; simpa [valsN] using h2
theorem own_empty (w : World) : (w.alloc (.cells #[] 3)).ownsRow w.heap.size 3 1 (.slice (some ⟨w.heap.size, 0, none⟩) 0 0) ([] : List Nat).length (valsN []) :=
  ⟨rfl, .inr ⟨w.heap.size, 0, #[], rfl, Nat.le_refl _, heap_alloc_new w _, Nat.le_refl _, Nat.zero_le _, rfl, rfl⟩⟩
theorem below_of_alloc {B : Nat} {w w' : World} {o : Obj} (h : Below B (w.alloc o) w') (hB : B ≤ w.heap.size) : Below B w w' := ((Below.refl _ _).alloc hB o).trans h
theorem NatsAt.alloc {w : World} {A : Option Addr} {L : List Nat} (h : NatsAt w A L) (o : Obj) : NatsAt (w.alloc o) A L := h.below (below_alloc w o)
/-- What a list's contract gives. -/
theorem NewList.open_ {L : List Nat} {w w' : World} {e : Ending} (h : NewList L w e w') :
    ∃ A c, e = .returned (.slice A L.length c) ∧ NatsAt w' A L ∧ SlOK A c L ∧ (∀ b off, A = some ⟨b, off, none⟩ → w.heap.size ≤ b ∧ b < w'.heap.size) ∧ Below w.heap.size w w' := by
  obtain ⟨v, rfl, hown, hb⟩ := h
  obtain ⟨A, c, rfl, h1, h2, h3⟩ := own_sl hown rfl
  exact ⟨A, c, rfl, h1, h2, h3, hb⟩
theorem NewNats.list {L : List Nat} {w w' : World} {e : Ending} (h : NewNats L w e w') (hl : L.length ≤ maxLen) : NewList L w e w' := by
  obtain ⟨g, rfl, hg, hB, hb⟩ := h
  exact ⟨_, rfl, hB.own hg hl, hb⟩

set_option maxRecDepth 100000 in
set_option maxHeartbeats 400000 in
theorem clone_any (A : Option Addr) (L : List Nat) (c : Nat) (w : World) (hN : NatsAt w A L) (hS : SlOK A c L) (hl : L.length ≤ 1073741824) :
    Calls Tryd.prog 88 #[.slice A L.length c] w (NewList L w) := by
  rcases A with _ | a
  · obtain ⟨rfl, rfl⟩ := hS.empty rfl
    clear hN hS
    have he : ∀ w : World, (binOp .eql 22 (.slice none 0 0) (.slice none 0 0)).run Tryd.prog w = .ok (.bool true) w := fun _ => rfl
    go_enter Tryd.func88, Tryd.ntmps88
    go_wp2
    go_ret
    exact ⟨_, rfl, World.ownsRow_nil _ _ _ _, Below.refl _ _⟩
  · have HA := Lib.hid (hS.spot a rfl)
    have HN := Lib.hid hN
    clear hN hS
    have he : ∀ w : World, (binOp .eql 22 (.slice (some a) L.length c) (.slice none 0 0)).run Tryd.prog w = .ok (.bool false) w := fun _ => rfl
    go_enter Tryd.func88, Tryd.ntmps88
    go_wp2_with (first | (at_builtin; refine app_nats rfl (.tmp 5) (.tmp 6) rfl (base := w.heap.size) (S := []) (T := L) (v := .slice (some ⟨w.heap.size, 0, none⟩) 0 0) rfl (own_empty w) rfl ((HN.out.alloc _).news HA.out) (by simp; omega) (by simp) ?_; intro v w1 hown hg hb; clear hg he HN) | fail)
    go_ret
    exact ⟨_, rfl, hown, below_of_alloc hb (Nat.le_refl _)⟩

theorem dgI_succ (L : List Nat) : dgI L + 1 = (dgN L : Int) := by unfold dgI; omega
theorem dgI_ge (L : List Nat) : -1 ≤ dgI L ∧ dgI L < L.length := by have := dgN_le L; unfold dgI; omega
theorem NatsAt.take {w : World} {A : Option Addr} {L : List Nat} (h : NatsAt w A L) (k : Nat) : NatsAt w A (L.take k) := fun j hj => by
  have hj' : j < L.length := Nat.lt_of_lt_of_le hj (List.length_take_le' _ _)
  obtain ⟨b, off, hA, hb, hc⟩ := h j hj'
  refine ⟨b, off, hA, hb, ?_⟩
  rw [hc, nthN_eq hj', nthN_eq hj]; simp
theorem SlOK.take {A : Option Addr} {c : Nat} {L : List Nat} (h : SlOK A c L) (k : Nat) : SlOK A c (L.take k) :=
  ⟨Nat.le_trans (List.length_take_le' _ _) h.len, h.cap, h.nil, h.spot⟩

set_option maxRecDepth 100000 in
set_option maxHeartbeats 400000 in
theorem short_any (A : Option Addr) (L : List Nat) (c : Nat) (w : World) (hN : NatsAt w A L) (hS : SlOK A c L) (hl : L.length ≤ 1073741824) :
    Calls Tryd.prog 79 #[.slice A L.length c] w (NewList (shN L) w) := by
  have hcl := hS.len
  have hcm := hS.cap
  unfold maxLen at hcm
  have HS := Lib.hid hS
  have HN := Lib.hid hN
  have hd := dgN_le L
  have hsl := shN_len L
  have HSL := Lib.hid hsl
  have HDS := Lib.hid (dgI_succ L)
  obtain ⟨hg1, hg2⟩ := dgI_ge L
  clear hN hS hsl
  go_enter Tryd.func79, Tryd.ntmps79
  go_wp2_with fail
  refine ret_below (degree_any A L c _ HN.out hl) ?_
  intro w1 hb1
  have e1 : IntKind.i64.wrap (dgI L + 1) = (dgN L : Int) := by rw [HDS.out]; exact IntWalk.i64_in _ (by omega)
  rcases A with _ | ⟨b, off, spot⟩
  · obtain ⟨rfl, rfl⟩ := HS.out.empty rfl
    have e2 : dgN ([] : List Nat) = 0 := rfl
    rw [e2] at e1
    go_wp2_with fail
    refine (clone_any none [] 0 _ (NatsAt.nil _ _) SlOK.none0 (by simp)).mono ?_
    rintro e w2 ⟨v, rfl, hown, hb2⟩
    go_wp2_with fail
    go_ret
    exact ⟨_, rfl, ownsRow_mono hown hb1.size, below_trans hb1 hb2⟩
  · have hs : spot = none := HS.out.spot _ rfl
    subst hs
    go_wp2_with fail
    have := (clone_any (some ⟨b, off, none⟩) (shN L) c w1 ((HN.out.below hb1).take _) (HS.out.take _) (by rw [HSL.out]; omega))
    rw [HSL.out] at this
    refine this.mono ?_
    rintro e w2 ⟨v, rfl, hown, hb2⟩
    go_wp2_with fail
    go_ret
    exact ⟨_, rfl, ownsRow_mono hown hb1.size, below_trans hb1 hb2⟩
end Go.Proofs.YtkjpnhhkebbmdaaDoor
